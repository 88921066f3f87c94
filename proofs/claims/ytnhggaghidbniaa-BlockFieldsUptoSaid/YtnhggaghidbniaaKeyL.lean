/- Keys: loads, stores, lists; and as keys of a map. -/
import Derived.Test.YtnhggaghidbniaaKeyEq
import Derived.Test.YtnhggaghidbniaaOnly
import Derived.Test.YtnhggaghidbniaaListB
import Derived.Deep.RegionLaw
import Derived.Deep.MidRow
import Derived.Deep.RegionHeld3
import Derived.Maps.OwnSet
import Derived.WideKeyArr
import Derived.Great.BuildSlice
namespace Go.Proofs.Ytnhggaghidbniaa
open Go.RowKit
set_option linter.unusedVariables false
set_option linter.unusedSimpArgs false
open ShaW Sha

abbrev Ky := Nat → UInt8
theorem keyV_size (k : Nat → UInt8) : (bytesOf 32 k).toArray.size = 32 := by simp only [List.size_toArray]; exact bytesOf_length _ _
theorem keyV_one (k : Nat → UInt8) : (bytesOf 32 k).toArray.all (·.oneCell') = true := all_one _ (bytesOf_one _ _)
theorem own_form {w : World} {base n : Nat} {e : TypeId} {v : Value} {xs : List Value} {size : Nat} (h : w.ownsRow base e size v n xs) : ∃ A c, v = .slice A n c := by
  rcases h.2 with ⟨rfl, rfl⟩ | ⟨g', cap, cur, rfl, _⟩
  · exact ⟨_, _, rfl⟩
  · exact ⟨_, _, rfl⟩
theorem lit_cell (w : World) (C : Array Value) (e : TypeId) (fr : Nat × Nat) (i : Nat) : (w.alloc (.cells C e fr)).cell? ⟨w.heap.size, i, none⟩ = C[i]? := cell_of_row _ _ _ _ _ _ (heap_alloc_new w _)
theorem only_below {w w1 w2 : World} {D : Nat} (h : Below w.heap.size w w1) (hg : w1.grownBy w2 (some D)) (hD : w.heap.size ≤ D) : Below w.heap.size w w2 :=
  h.trans ⟨hg.os, hg.tape, hg.output, hg.size, fun i hi => hg.block i (by have := h.size; omega) (by simp; omega)⟩
/-- v points to a key's row -/
def KeyAt (W : World) (v : Value) : Prop := ∃ g, ∃ cs : Array Value, v = .pointer (some ⟨g, 0, none⟩) ∧ W.heap[g]? = some (.cells cs 23 (0, 0)) ∧ cs.size = 32
def IsKey (v : Value) : Prop := ∃ cs : Array Value, v = .agg cs ∧ cs.size = 32 ∧ cs.all (·.oneCell') = true
theorem isKey_keyV (k : Nat → UInt8) : IsKey (.agg (bytesOf 32 k).toArray) := ⟨_, rfl, keyV_size k, keyV_one k⟩
theorem isKey_keyV' (k : Nat → UInt8) : IsKey (keyV k) := isKey_keyV k
def storeRow (W : World) (p v : Value) : World :=
  match p, v with
  | .pointer (some ⟨g, _, _⟩), .agg cs => W.setRow g cs
  | _, _ => W
theorem storeRow_eq (W : World) (g o : Nat) (s : Option Nat) (cs : Array Value) : storeRow W (.pointer (some ⟨g, o, s⟩)) (.agg cs) = W.setRow g cs := rfl
theorem storeRow_key (W : World) (g o : Nat) (s : Option Nat) (k : Nat → UInt8) : storeRow W (.pointer (some ⟨g, o, s⟩)) (keyV k) = W.setRow g (bytesOf 32 k).toArray := rfl
theorem wp_store_key (x y : Operand) (ty : TypeId) (pos : String) (after : Array Edge) (guard : Option (Nat × Bool)) (a : Act) (W : World) (K : Act → World → Prop) (Q : Exit → Act → World → Prop) (h : KeyAt W (a.eval x)) (hv : IsKey (a.eval y)) :
    Oper.wp Try.prog { dst := none, op := .store 23 x y, type := ty, pos := pos, after := after, guard := guard } a W K Q = K a (storeRow W (a.eval x) (a.eval y)) := by
  obtain ⟨g, cs, hx, h1, h2⟩ := h
  obtain ⟨us, hu, hs, ho⟩ := hv
  have e : storeRow W (a.eval x) (a.eval y) = W.setRow g us := by rw [hx, hu]; rfl
  rw [e]
  have hrun := run_storeVar_row (P := Try.prog) W g 23 23 cs us h1 (by rw [hs]; kernel_rfl) (by rw [h2, hs]) ho
  unfold Oper.wp execOp
  simp only [hx, hu, Instr.storeAt, Instr.sureAddr, Sem.run_bind, Sem.run_pure, Result.andThen_ok, hrun]
  rfl
theorem key_info : (Try.prog.info? 23).map (fun i => (i.zero, i.size, i.bytes)) = some (some (.agg (Array.replicate 32 (.int .u8 0))), 32, 32) := by kernel_rfl
/-- the cells of some keys -/
def keysOf (p : List Ky) : List Value := p.flatMap (fun k => bytesOf 32 k)
theorem keysOf_append (p q : List Ky) : keysOf (p ++ q) = keysOf p ++ keysOf q := by unfold keysOf; rw [List.flatMap_append]
theorem keysOf_one (k : Ky) : keysOf [k] = bytesOf 32 k := by unfold keysOf; simp
theorem keysOf_len (p : List Ky) : (keysOf p).length = p.length * 32 := by
  induction p with
  | nil => rfl
  | cons k p ih =>
    show (bytesOf 32 k ++ keysOf p).length = _
    rw [List.length_append, ih, bytesOf_length, List.length_cons]
    omega
theorem keysOf_oneCell (p : List Ky) : ∀ u ∈ keysOf p, u.oneCell' = true := by
  intro u hu
  obtain ⟨k, _, hk⟩ := List.mem_flatMap.1 hu
  exact bytesOf_one _ _ u hk
theorem owns_below2 {w w' : World} {base : Nat} {e : TypeId} {size n : Nat} {v : Value} {xs : List Value} (h : w.ownsRow base e size v n xs) (hb : Below w.heap.size w w') : w'.ownsRow base e size v n xs := owns_below h hb
/-- one key, laid to be appended -/
theorem key_reads (w : World) (k : Ky) : Reads (w.alloc (.cells (bytesOf 32 k).toArray 23)) (w.alloc (.cells (bytesOf 32 k).toArray 23)).heap.size 32 (some ⟨w.heap.size, 0, none⟩) 1 (keysOf [k]) := by
  rw [keysOf_one]
  refine ⟨by rw [bytesOf_length], fun _ => ⟨⟨w.heap.size, 0, none⟩, rfl, by rw [World.size_alloc]; exact Nat.lt_succ_self _, fun j u hu => ?_⟩⟩
  rw [add_flat, Nat.zero_add, lit_cell]
  exact List.getElem?_toArray.trans hu
/-- a list literal of one key -/
theorem key_fill (k : Ky) (ie : TypeInfo) (hs : ie.size = 32) : Instr.fill (fun i => some (i * ie.size, ie.size)) ((Array.range (1 * ie.size)).map ((Value.agg (Array.replicate 32 (.int .u8 0))).cells[· % (Value.agg (Array.replicate 32 (.int .u8 0))).cells.size]!)) [(0, .agg (bytesOf 32 k).toArray)] = some (bytesOf 32 k).toArray := by
  rw [hs]
  kernel_rfl
/-- v points to the cells of a key -/
def KeyOk (W : World) (v : Value) : Prop := ∃ ad, ∃ k : Ky, v = .pointer (some ad) ∧ ∀ j u, (bytesOf 32 k)[j]? = some u → W.cell? (ad.add j) = some u
/-- what lies there -/
def loadK (W : World) (v : Value) : Value :=
  match v with
  | .pointer (some ad) => .agg ((List.range 32).map (fun j => (W.cell? (ad.add j)).getD undef)).toArray
  | _ => .agg #[]
theorem loadK_eq {W : World} {ad : Addr} {k : Ky} (h : ∀ j u, (bytesOf 32 k)[j]? = some u → W.cell? (ad.add j) = some u) : loadK W (.pointer (some ad)) = keyV k := by
  show Value.agg _ = Value.agg _
  congr 2
  unfold bytesOf
  refine List.map_congr_left (fun j hj => ?_)
  rw [h j _ (bytesOf_get k (List.mem_range.1 hj))]
  rfl
theorem keyOk_mk {W : World} {ad : Addr} {k : Ky} (h : ∀ j u, (bytesOf 32 k)[j]? = some u → W.cell? (ad.add j) = some u) : KeyOk W (.pointer (some ad)) := ⟨ad, k, rfl, h⟩
theorem blk_key {W : World} {g : Nat} {k : Ky} (h : Blk W g 23 (bytesOf 32 k).toArray) : ∀ j u, (bytesOf 32 k)[j]? = some u → W.cell? ((⟨g, 0, none⟩ : Addr).add j) = some u := by
  intro j u hu
  rw [add_flat, Nat.zero_add, h.cell]
  exact List.getElem?_toArray.trans hu
theorem wp_load_k (dst : Option Tmp) (x : Operand) (ty : TypeId) (pos : String) (after : Array Edge) (guard : Option (Nat × Bool)) (a : Act) (W : World) (K : Act → World → Prop) (Q : Exit → Act → World → Prop) (h : KeyOk W (a.eval x)) :
    Oper.wp Try.prog { dst := dst, op := .load 23 x, type := ty, pos := pos, after := after, guard := guard } a W K Q = K (a.put dst (loadK W (a.eval x))) W := by
  obtain ⟨ad, k, hv, hk⟩ := h
  have e : loadK W (a.eval x) = keyV k := by rw [hv]; exact loadK_eq hk
  rw [e]
  have hl : (loadCells ad (bytesOf 32 k).length).run Try.prog W = .ok (bytesOf 32 k).toArray W :=
    run_loadCells_list (P := Try.prog) W ad (bytesOf 32 k) (fun j v hv => hk j v hv)
  have hrun : (loadVar 23 ad).run Try.prog W = .ok (keyV k) W := by
    rw [bytesOf_length] at hl
    have hagg : (isAgg 23).run Try.prog W = .ok true W := by
      unfold isAgg
      rw [Sem.run_bind, run_underlying Try.underlying23 W]
      rfl
    obtain ⟨i0, hi0, hz0, hz1, hz2⟩ := info_parts key_info
    simp [loadVar, Sem.run_bind, hagg, sizeOf, typeInfo, hi0, hz1, hl]
  unfold Oper.wp execOp
  simp only [hv, Instr.loadAt, Instr.sureAddr, Sem.run_bind, Sem.run_pure, Result.andThen_ok, hrun]
  rfl
theorem results_cell_tmp {P : Program} {fn : Func} {p q : Tmp} {ty : TypeId} (h : fn.results = #[.cell p ty, .tmp q]) (tmps : Array Value) (w : World) (g : Nat) (t : TypeId) (cs : Array Value) (fr : Nat × Nat) (d : TypeDesc)
    (hp : tmps.getD p undef = .pointer (some ⟨g, 0, none⟩)) (hg : w.heap[g]? = some (.cells cs t fr))
    (hu : P.underlying ty = some d) (hd : (match d with | .struct _ | .array _ _ => true | _ => false) = true) (hi : (P.info? ty).map (·.size) = some cs.size) :
    (results fn tmps).run P w = .ok (.tuple #[.agg cs, tmps.getD q undef]) w := by
  have hp' : tmps[p]?.getD undef = .pointer (some ⟨g, 0, none⟩) := by simpa using hp
  simp [results, h, hp', asAddr, run_loadVar_row w g t ty cs fr d hg hu hd hi]
/-- a list of keys, to be read and cut -/
def KeysAt (w : World) (A : Option Addr) (m c : Nat) (ps : List Ky) : Prop :=
  ps.length = m ∧ m ≤ c ∧ c ≤ 9223372036854775807 ∧ ∃ g o, (0 < m → A = some ⟨g, o, none⟩) ∧ ∀ j u, (keysOf ps)[j]? = some u → w.cell? ⟨g, o + j, none⟩ = some u
theorem KeysAt.below {w w' : World} {A : Option Addr} {m c : Nat} {ps : List Ky} (h : KeysAt w A m c ps) (hb : Below w.heap.size w w') : KeysAt w' A m c ps := by
  obtain ⟨h1, h2, h3, g, o, hA, hc⟩ := h
  exact ⟨h1, h2, h3, g, o, hA, fun j u hu => (hb.cell (p := ⟨g, o + j, none⟩) (World.block_lt_of_cell? w _ (hc j u hu))).trans (hc j u hu)⟩
theorem keysOf_take {ps : List Ky} {x : Ky} {m : Nat} (h : ps.length = m + 1) (hx : ps[m]? = some x) : ps = ps.take m ++ [x] := by
  obtain ⟨hlt, e⟩ := List.getElem?_eq_some_iff.1 hx
  rw [← e, ← List.take_succ_eq_append_getElem hlt, List.take_of_length_le (by omega)]
theorem KeysAt.front {w : World} {A : Option Addr} {m c : Nat} {ps : List Ky} (h : KeysAt w A (m + 1) c ps) : KeysAt w A m c (ps.take m) := by
  obtain ⟨h1, h2, h3, g, o, hA, hc⟩ := h
  have hlt : m < ps.length := by omega
  have e := keysOf_take h1 (List.getElem?_eq_getElem hlt)
  refine ⟨by rw [List.length_take]; omega, by omega, h3, g, o, fun _ => hA (by omega), fun j u hu => hc j u ?_⟩
  rw [e, keysOf_append]
  exact (List.getElem?_append_left (List.getElem?_eq_some_iff.1 hu).1).trans hu
theorem KeysAt.last {w : World} {m c g o : Nat} {ps : List Ky} (h : KeysAt w (some ⟨g, o, none⟩) (m + 1) c ps) : ∀ j u, (bytesOf 32 (ps.getD m (fun _ => 0)))[j]? = some u → w.cell? ((⟨g, o + m * 32, none⟩ : Addr).add j) = some u := by
  obtain ⟨h1, h2, h3, g', o', hA, hc⟩ := h
  have eA := hA (by omega)
  injection eA with eA
  injection eA with e1 e2
  subst e1 e2
  have hlt : m < ps.length := by omega
  have e := keysOf_take h1 (List.getElem?_eq_getElem hlt)
  have hx : ps.getD m (fun _ => 0) = ps[m] := by simp [List.getD_eq_getElem?_getD, hlt]
  intro j u hu
  rw [hx] at hu
  rw [add_flat, Nat.add_assoc]
  refine hc (m * 32 + j) u ?_
  rw [e, keysOf_append, List.getElem?_append_right (by rw [keysOf_len, List.length_take]; omega), keysOf_len, List.length_take, show m * 32 + j - min m ps.length * 32 = j by rw [Nat.min_eq_left (by omega)]; omega, keysOf_one]
  exact hu
theorem KeysAt.of_own {w : World} {base m c : Nat} {A : Option Addr} {ps : List Ky} (h : w.ownsRow base 23 32 (.slice A m c) m (keysOf ps)) : KeysAt w A m c ps := by
  have hlen : ps.length = m := by
    have := h.1
    rw [keysOf_len] at this
    omega
  rcases h.2 with ⟨hv, rfl⟩ | ⟨g, cap, cur, hv, hb, hg, hnc, hcm, hsz, htk⟩
  · injection hv with h1 h2 h3
    subst h1 h3
    have : ps = [] := List.length_eq_zero_iff.1 hlen
    subst this
    exact ⟨rfl, Nat.le_refl _, Nat.zero_le _, 0, 0, fun h => absurd h (Nat.lt_irrefl _), fun j u hu => by simp [keysOf] at hu⟩
  · injection hv with h1 h2 h3
    subst h1 h3
    refine ⟨hlen, hnc, hcm, g, 0, fun _ => rfl, fun j u hu => ?_⟩
    have := h.cells (g := g) rfl j u hu
    rwa [add_flat] at this
theorem KeysAt.at_ {w : World} {m c : Nat} {A : Option Addr} {ps : List Ky} (h : KeysAt w A m c ps) : ∃ g o, (0 < m → A = some ⟨g, o, none⟩) ∧ ∀ k, k < m → ∃ kk : Ky, ps[k]? = some kk ∧ ∀ j u, (bytesOf 32 kk)[j]? = some u → w.cell? ((⟨g, o + k * 32, none⟩ : Addr).add j) = some u := by
  obtain ⟨h1, h2, h3, g, o, hA, hc⟩ := h
  refine ⟨g, o, hA, fun k hk => ?_⟩
  have hk' : k < ps.length := by omega
  refine ⟨ps[k], List.getElem?_eq_getElem hk', fun j u hu => ?_⟩
  rw [add_flat, Nat.add_assoc]
  refine hc _ _ ?_
  have hj : j < 32 := by
    rcases Nat.lt_or_ge j 32 with h | h
    · exact h
    · rw [List.getElem?_eq_none (by rw [bytesOf_length]; exact h)] at hu; cases hu
  have e : ps = ps.take k ++ (ps[k] :: ps.drop (k + 1)) := by
    have := List.take_append_drop k ps
    rw [List.drop_eq_getElem_cons hk'] at this
    exact this.symm
  have hl : (keysOf (ps.take k)).length = k * 32 := by rw [keysOf_len, List.length_take]; congr 1; omega
  rw [e, keysOf_append, List.getElem?_append, if_neg (by rw [hl]; omega), hl, show k * 32 + j - k * 32 = j by omega]
  show (bytesOf 32 _ ++ keysOf _)[j]? = _
  rw [List.getElem?_append, if_pos (by rw [bytesOf_length]; exact hj)]
  exact hu

theorem KeysAt.take_ {w : World} {A : Option Addr} {m c k : Nat} {ps : List Ky} (h : KeysAt w A m c ps) (hk : k ≤ m) : KeysAt w A k c (ps.take k) := by
  obtain ⟨h1, h2, h3, g, o, hA, hc⟩ := h
  refine ⟨by rw [List.length_take]; omega, by omega, h3, g, o, fun _ => hA (by omega), fun j u hu => hc j u ?_⟩
  rw [← List.take_append_drop k ps, keysOf_append]
  exact (List.getElem?_append_left (List.getElem?_eq_some_iff.1 hu).1).trans hu
theorem below_al {a W : World} (h : Below a.heap.size a W) (o : Obj) : Below a.heap.size a (W.alloc o) := h.alloc h.size o
theorem below_step {a W w' : World} (h : Below a.heap.size a W) (h' : Below W.heap.size W w') : Below a.heap.size a w' := h.trans (h'.mono h.size)
theorem belowDrewR {a W : World} (h : Below a.heap.size a W) : Below a.heap.size a W.drew := below_drewN h 1
theorem below_dnR {a W : World} (h : Below a.heap.size a W) (n : Nat) : Below a.heap.size a (W.drewN n) := below_drewN h n
theorem blk_range {w : World} {g : Nat} {t : TypeId} {k : Ky} (h : Blk w g t (bytesOf 32 k).toArray) : w.rangeAt g 0 (bytesOf 32 k) := fun j v hv => by
  rw [Nat.zero_add, h.cell]; exact List.getElem?_toArray.trans hv
theorem range_below {a W : World} {g : Nat} {cs : List Value} (h : Below a.heap.size a W) (hg : g < a.heap.size) (hr : a.rangeAt g 0 cs) : W.rangeAt g 0 cs := fun j v hv => (h.cell (p := ⟨g, 0 + j, none⟩) hg).trans (hr j v hv)
theorem key_size (k : Ky) : (Try.prog.info? 23).map (·.size) = some (bytesOf 32 k).length := by rw [bytesOf_length]; kernel_rfl

theorem keyEq_comm (a b : Ky) : keyEq a b = keyEq b a := by
  rw [Bool.eq_iff_iff, keyEq_iff, keyEq_iff]
  exact ⟨fun h i hi => (h i hi).symm, fun h i hi => (h i hi).symm⟩
theorem keyEq_trans {a b c : Ky} (h1 : keyEq a b = true) (h2 : keyEq b c = true) : keyEq a c = true := by
  rw [keyEq_iff] at h1 h2 ⊢
  exact fun i hi => (h1 i hi).trans (h2 i hi)
theorem keyEq_left {a b : Ky} (h : keyEq a b = true) (c : Ky) : keyEq a c = keyEq b c := by
  rw [Bool.eq_iff_iff]
  exact ⟨fun h1 => keyEq_trans (by rw [keyEq_comm]; exact h) h1, fun h1 => keyEq_trans h h1⟩
theorem keyV_congr {a b : Ky} (h : keyEq a b = true) : bytesOf 32 a = bytesOf 32 b := by
  unfold bytesOf
  refine List.map_congr_left (fun j hj => ?_)
  rw [(keyEq_iff a b).1 h j (List.mem_range.1 hj)]
theorem keyV_inj {a b : Ky} (h : (Value.agg (bytesOf 32 a).toArray) = .agg (bytesOf 32 b).toArray) : keyEq a b = true := by
  injection h with h
  have e : bytesOf 32 a = bytesOf 32 b := by
    have := congrArg Array.toList h
    simpa using this
  rw [keyEq_iff]
  intro i hi
  have h1 := bytesOf_get a hi
  rw [e, bytesOf_get b hi] at h1
  injection h1 with h1
  injection h1 with _ h1
  exact UInt8.toNat_inj.1 (by omega)

/-! ### keys of a map -/
open Go.WideMaps in
theorem key_arrK : ArrKey Try.prog 23 5 32 := ⟨Try.underlying23, by kernel_rfl, by kernel_rfl, by kernel_rfl⟩
theorem key_keyed : Maps.Keyed Try.prog 23 := Maps.Keyed.of_law key_arrK.law
theorem types_size : ∃ m, Try.prog.types.size = m + 2 := ⟨Try.prog.types.size - 2, by kernel_rfl⟩
theorem mapM_some {α β : Type} {f : α → Option β} {g : α → β} : ∀ (L : List α), (∀ i ∈ L, f i = some (g i)) → L.mapM f = some (L.map g)
  | [], _ => rfl
  | a :: L, h => by
    rw [List.mapM_cons, h a (by simp), mapM_some L (fun i hi => h i (by simp [hi]))]
    rfl
theorem key_lits (m : Nat) (k : Ky) : Try.prog.keyLits (m + 2) 23 (bytesOf 32 k) = some (((List.range 32).map fun i => [Lit.int .u8 ((k i).toNat : Int)]).flatten) := by
  unfold Program.keyLits
  rw [Try.underlying23]
  simp only []
  rw [if_pos (by rw [bytesOf_length]; kernel_rfl), mapM_some (g := fun i => [Lit.int .u8 ((k i).toNat : Int)])]
  · rfl
  · intro i hi
    have hi' := List.mem_range.1 hi
    rw [show Try.prog.cellsOf 5 = 1 by kernel_rfl, Nat.mul_one]
    have e : ((bytesOf 32 k).drop i).take 1 = [.int .u8 ((k i).toNat : Int)] := by
      rw [List.drop_eq_getElem_cons (by rw [bytesOf_length]; exact hi')]
      show [_] = _
      have := bytesOf_get k hi'
      rw [List.getElem?_eq_getElem (by rw [bytesOf_length]; exact hi')] at this
      injection this with this
      rw [this]
    rw [e]
    unfold Program.keyLits
    rw [Try.underlying5]
    have hb := (k i).toNat_lt
    have hw : (Lit.int .u8 ((k i).toNat : Int)).wf = true := by simp [Lit.wf, IntKind.min, IntKind.max, IntKind.signed, IntKind.bits]; omega
    simp only []
    rw [if_pos ⟨by first | rfl | trivial, hw⟩]
/-- a key, as the key of a map -/
def klit (k : Ky) : Lit := .string (keyBytes (((List.range 32).map fun i => [Lit.int .u8 ((k i).toNat : Int)]).flatten))
theorem klit_of (k : Ky) : keyOf Try.prog 23 (.agg (bytesOf 32 k).toArray) = some (klit k) := by
  obtain ⟨m, hm⟩ := types_size
  unfold keyOf
  rw [Try.underlying23]
  simp only []
  have h1 : Try.prog.keyType 23 = true := by kernel_rfl
  have h2 : (Value.agg (bytesOf 32 k).toArray).formed Try.prog 23 = true := by
    unfold Value.formed
    rw [Try.underlying23]
    simp only []
    rw [keyV_size]
    kernel_rfl
  rw [h1, h2, hm]
  show (if true = true then _ else _) = _
  rw [if_pos rfl, show (Value.agg (bytesOf 32 k).toArray).cells.toList = bytesOf 32 k by simp [Value.cells], key_lits]
  rfl
theorem klit_key (k : Ky) : WideAt.IsKeyLit (klit k) := key_keyed.key (klit_of k)
theorem klit_eq {a b : Ky} (h : klit a = klit b) : keyEq a b = true := keyV_inj (key_keyed.inj (klit_of a) (by rw [h]; exact klit_of b))
theorem klit_congr {a b : Ky} (h : keyEq a b = true) : klit a = klit b := by
  have h1 := klit_of a
  rw [keyV_congr h, klit_of b] at h1
  injection h1 with h1
  exact h1.symm
theorem klit_ne {a b : Ky} (h : keyEq a b = false) : klit a ≠ klit b := fun e => by rw [klit_eq e] at h; cases h
end Go.Proofs.Ytnhggaghidbniaa
