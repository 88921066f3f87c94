/- Entries: their cells; copies that share no memory. -/
import Derived.Test.YtoamjdjmfhdaeaaKeyL
import Derived.Test.YtoamjdjmfhdaeaaMid
import Derived.Test.YtoamjdjmfhdaeaaNumb
import Derived.Outline
namespace Go.Proofs.Ytoamjdjmfhdaeaa
open Go.RowKit
set_option linter.unusedVariables false
set_option linter.unusedSimpArgs false
open ShaW Sha

/-- an entry, plainly -/
structure Ent where
  key : Ky
  rn : Nat
  raw : Nat → UInt8
  snd : ByteArray
  seq : Int
  gas : Int
  prio : Int
  ht : Int
  tm : Int
  ord : Int
  peers : List Int
def intsV (l : List Int) : List Value := l.map (Value.int .i64)
theorem intsV_len (l : List Int) : (intsV l).length = l.length := by unfold intsV; rw [List.length_map]
theorem intsV_one (l : List Int) : ∀ u ∈ intsV l, u.oneCell' = true := by
  intro u hu
  obtain ⟨x, _, rfl⟩ := List.mem_map.1 hu
  rfl
/-- its cells; rv, pv: its bytes and its peers -/
def entTail (e : Ent) (rv pv : Value) : List Value := [rv, .string e.snd, .int .u64 e.seq, .int .u64 e.gas, .int .u64 e.prio, .int .i64 e.ht, .int .i64 e.tm, .int .i64 e.ord, pv]
def entCells (e : Ent) (rv pv : Value) : List Value := bytesOf 32 e.key ++ entTail e rv pv
theorem entCells_len (e : Ent) (rv pv : Value) : (entCells e rv pv).length = 41 := by unfold entCells; rw [List.length_append, bytesOf_length]; rfl
abbrev entV (e : Ent) (rv pv : Value) : Value := .agg (entCells e rv pv).toArray
/-- where its bytes and its peers lie -/
structure EntAt (w : World) (base : Nat) (e : Ent) (rv pv : Value) : Prop where
  raw : w.ownsRow base 5 1 rv e.rn (bytesOf e.rn e.raw)
  peers : w.ownsRow base 3 1 pv e.peers.length (intsV e.peers)
theorem own_oneCell {w : World} {base n : Nat} {e : TypeId} {v : Value} {xs : List Value} {size : Nat} (h : w.ownsRow base e size v n xs) : v.oneCell' = true := by
  obtain ⟨A, c, rfl⟩ := own_form h
  rfl
theorem entCells_one {e : Ent} {rv pv : Value} (h1 : rv.oneCell' = true) (h2 : pv.oneCell' = true) : ∀ u ∈ entCells e rv pv, u.oneCell' = true := by
  intro u hu
  rcases List.mem_append.1 hu with hu | hu
  · exact bytesOf_one _ _ u hu
  · unfold entTail at hu
    simp at hu
    rcases hu with rfl | rfl | rfl | rfl | rfl | rfl | rfl | rfl | rfl
    · exact h1
    · rfl
    · rfl
    · rfl
    · rfl
    · rfl
    · rfl
    · rfl
    · exact h2
theorem EntAt.one {w : World} {base : Nat} {e : Ent} {rv pv : Value} (h : EntAt w base e rv pv) : ∀ u ∈ entCells e rv pv, u.oneCell' = true := entCells_one (own_oneCell h.raw) (own_oneCell h.peers)
theorem EntAt.below {w w' : World} {base : Nat} {e : Ent} {rv pv : Value} (h : EntAt w base e rv pv) (hb : Below w.heap.size w w') : EntAt w' base e rv pv := ⟨owns_below h.raw hb, owns_below h.peers hb⟩
theorem EntAt.less {w : World} {base base' : Nat} {e : Ent} {rv pv : Value} (h : EntAt w base e rv pv) (hb : base' ≤ base) : EntAt w base' e rv pv := ⟨owns_base2 h.raw hb, owns_base2 h.peers hb⟩
/-- blocks of neither bytes nor ints turn -/
theorem EntAt.only {S : Nat → Prop} {w w' : World} {base : Nat} {e : Ent} {rv pv : Value} (h : EntAt w base e rv pv) (ho : Only S w w') (h1 : ∀ g, rv.ownBlock = some g → ¬ S g) (h2 : ∀ g, pv.ownBlock = some g → ¬ S g) : EntAt w' base e rv pv := ⟨owns_only h.raw ho h1, owns_only h.peers ho h2⟩

/-- rows that can be read (also those of constants, which are marked) -/
def RdT (w : World) (ty : TypeId) (v : Value) (n : Nat) (xs : List Value) : Prop := ∃ A c, v = .slice A n c ∧ Reads w w.heap.size 1 A n xs ∧ (0 < n → ∃ g o cs mk, A = some ⟨g, o, none⟩ ∧ w.heap[g]? = some (.cells cs ty mk))
def ApartT (S : Nat → Prop) (w : World) (ty : TypeId) : Prop := ∀ g cs mk, w.heap[g]? = some (.cells cs ty mk) → ¬ S g
theorem RdT.only {S : Nat → Prop} {w w' : World} {ty : TypeId} {v : Value} {n : Nat} {xs : List Value} (h : RdT w ty v n xs) (ho : Only S w w') (hS : ApartT S w ty) : RdT w' ty v n xs := by
  obtain ⟨A, c, rfl, hr, ht⟩ := h
  refine ⟨A, c, rfl, ⟨hr.1, fun hn => ?_⟩, fun hn => ?_⟩
  · obtain ⟨ad, e, hb, hc⟩ := hr.2 hn
    obtain ⟨g, o, cs, mk, e', hk⟩ := ht hn
    have : ad = ⟨g, o, none⟩ := by rw [e] at e'; injection e'
    subst this
    exact ⟨_, e, Nat.lt_of_lt_of_le hb ho.size, fun j u hu => (ho.cell (p := (⟨g, o, none⟩ : Addr).add j) (by rw [add_flat]; exact hb) (by rw [add_flat]; exact hS _ _ _ hk)).trans (hc j u hu)⟩
  · obtain ⟨g, o, cs, mk, e', hk⟩ := ht hn
    obtain ⟨ad, e, hb, _⟩ := hr.2 hn
    have : ad = ⟨g, o, none⟩ := by rw [e] at e'; injection e'
    subst this
    exact ⟨g, o, cs, mk, e, (ho.block _ hb (hS _ _ _ hk)).trans hk⟩
theorem RdT.below {w w' : World} {ty : TypeId} {v : Value} {n : Nat} {xs : List Value} (h : RdT w ty v n xs) (hb : Below w.heap.size w w') : RdT w' ty v n xs := h.only (Only.of_below (fun _ => False) hb) (fun _ _ _ _ h => h)
theorem RdT.of_own {w : World} {ty : TypeId} {v : Value} {n base : Nat} {xs : List Value} (h : w.ownsRow base ty 1 v n xs) : RdT w ty v n xs := by
  obtain ⟨A, c, rfl⟩ := own_form h
  refine ⟨A, c, rfl, Reads.of_own h, fun hn => ?_⟩
  rcases h.2 with ⟨hv0, h0⟩ | ⟨g', cap', cur, hv', hb, hg, _⟩
  · injection hv0 with _ h1 _; omega
  · injection hv' with e1 _ _
    exact ⟨g', 0, cur, _, e1, hg⟩
structure EntRd (w : World) (e : Ent) (rv pv : Value) : Prop where
  raw : RdT w 5 rv e.rn (bytesOf e.rn e.raw)
  peers : RdT w 3 pv e.peers.length (intsV e.peers)
theorem EntRd.only {S : Nat → Prop} {w w' : World} {e : Ent} {rv pv : Value} (h : EntRd w e rv pv) (ho : Only S w w') (h1 : ApartT S w 5) (h2 : ApartT S w 3) : EntRd w' e rv pv := ⟨h.raw.only ho h1, h.peers.only ho h2⟩
theorem EntRd.below {w w' : World} {e : Ent} {rv pv : Value} (h : EntRd w e rv pv) (hb : Below w.heap.size w w') : EntRd w' e rv pv := ⟨h.raw.below hb, h.peers.below hb⟩
theorem EntAt.rd {w : World} {base : Nat} {e : Ent} {rv pv : Value} (h : EntAt w base e rv pv) : EntRd w e rv pv := ⟨.of_own h.raw, .of_own h.peers⟩
theorem RdT.oneCell {w : World} {ty : TypeId} {v : Value} {n : Nat} {xs : List Value} (h : RdT w ty v n xs) : v.oneCell' = true := by
  obtain ⟨A, c, rfl, _⟩ := h
  rfl
theorem EntRd.one {w : World} {e : Ent} {rv pv : Value} (h : EntRd w e rv pv) : ∀ u ∈ entCells e rv pv, u.oneCell' = true := entCells_one h.raw.oneCell h.peers.oneCell
theorem RdT.nil (w : World) (ty : TypeId) : RdT w ty (.slice none 0 0) 0 [] := ⟨none, 0, rfl, Reads.none_, fun h => absurd h (by omega)⟩
theorem int_infoE : (Try.prog.info? 3).map (fun i => (i.zero, i.size, i.bytes)) = some (some (.int .i64 0), 1, 8) := by kernel_rfl
theorem lit_ownsE (w : World) (e : TypeId) : (w.alloc (.cells #[] e)).ownsRow w.heap.size e 1 (.slice (some ⟨w.heap.size, 0, none⟩) 0 0) 0 [] :=
  World.ownsRow_lit (base := w.heap.size) (e := e) (size := 1) w #[] 0 (by simp) (by unfold maxLen; omega) rfl
/-- a copy of bytes -/
def BClone (w : World) (xs : List Value) (ty : TypeId) (e : Ending) (w' : World) : Prop := ∃ A c, e = .returned (.slice A xs.length c) ∧ Below w.heap.size w w' ∧ w'.ownsRow w.heap.size ty 1 (.slice A xs.length c) xs.length xs
set_option maxRecDepth 100000 in
theorem bclone_any (w : World) (A : Option Addr) (n c : Nat) (xs : List Value) (hr : Reads w w.heap.size 1 A n xs) (h1 : ∀ u ∈ xs, u.oneCell' = true) (hn : n ≤ 140737488351232) :
    Calls Try.prog 25 #[.slice A n c] w (BClone w xs 5) := by
  obtain ⟨i0, hi0, hz0, hz1, hz2⟩ := info_parts u8_info
  have hxl : xs.length = n := by have := hr.1; omega
  unfold BClone
  rw [hxl]
  rcases A with _ | a
  · have hn0 : n = 0 := by
      rcases Nat.eq_zero_or_pos n with h | h
      · exact h
      · obtain ⟨ad, h, _⟩ := hr.2 h
        cases h
    subst hn0
    have hx : xs = [] := List.length_eq_zero_iff.1 hxl
    subst hx
    have hnil : ∀ w, (binOp .eql 33 (.slice none 0 c) (.slice none 0 0)).run Try.prog w = .ok (.bool true) w := fun _ => by kernel_rfl
    go_enter Try.func25, Try.ntmps25
    go_wp2_with fail
    go_ret
    exact ⟨none, 0, rfl, Below.refl _ _, World.ownsRow_nil _ _ _ _⟩
  · have HO := Lib.hid (lit_ownsE w 5)
    have HR := Lib.hid (hr.alloc (Nat.le_refl _) (.cells #[] 5))
    clear hr hxl
    have hnil : ∀ w, (binOp .eql 33 (.slice (some a) n c) (.slice none 0 0)).run Try.prog w = .ok (.bool false) w := fun _ => by kernel_rfl
    go_enter Try.func25, Try.ntmps25
    go_wp2_with (first
      | (at_builtin
         refine wpList_append_any _ rfl (.tmp 5) (.tmp 6) _ rfl w.heap.size 5 i0 _ 1 1 Try.underlying33 hi0 hz0 hz1 hz2 rfl (by omega) _ 0 [] rfl
           HO.out w.heap.size (some a) n c _ rfl HR.out h1 (by unfold maxLen; omega) (by omega) (by simp) ?_
         intro v1 w1 hown1 hg1 hat1
         rw [Nat.zero_add, List.nil_append] at hown1
         have hb1 : Below w.heap.size w w1 := ((Below.refl _ _).alloc (Nat.le_refl _) _).grown hg1 (by rw [World.size_alloc]; omega) (fun g e => by have := Option.some.inj (show some w.heap.size = some g from e); omega)
         obtain ⟨A1, c1, rfl⟩ := own_form hown1
         have HO1 := Lib.hid hown1
         have HB1 := Lib.hid hb1
         clear hown1 hg1 hat1 hb1))
    go_ret
    exact ⟨_, _, rfl, HB1.out, HO1.out⟩

/-! ### many cells at once -/
/-- n cells lie there -/
def AggOk (n : Nat) (W : World) (v : Value) : Prop := ∃ b o, ∃ cs : List Value, v = .pointer (some ⟨b, o, none⟩) ∧ cs.length = n ∧ W.rangeAt b o cs
def loadN (n : Nat) (W : World) (v : Value) : Value :=
  match v with
  | .pointer (some ad) => .agg ((List.range n).map (fun j => (W.cell? (ad.add j)).getD undef)).toArray
  | _ => .agg #[]
theorem aggOk_mk {n : Nat} {W : World} {b o : Nat} {cs : List Value} (h : W.rangeAt b o cs) (hl : cs.length = n) : AggOk n W (.pointer (some ⟨b, o, none⟩)) := ⟨b, o, cs, rfl, hl, h⟩
theorem loadN_eq {n : Nat} {W : World} {b o : Nat} {cs : List Value} (h : W.rangeAt b o cs) (hl : cs.length = n) : loadN n W (.pointer (some ⟨b, o, none⟩)) = .agg cs.toArray := by
  show Value.agg _ = Value.agg _
  congr 2
  refine List.ext_getElem? (fun j => ?_)
  rw [List.getElem?_map]
  by_cases hj : j < n
  · have hv : cs[j]? = some cs[j] := List.getElem?_eq_getElem (by omega)
    rw [hv, List.getElem?_range hj]
    simp [add_flat, h j _ hv]
  · rw [List.getElem?_eq_none (l := cs) (by omega), List.getElem?_eq_none (by simp; omega)]
    rfl
theorem wp_load_agg {n : Nat} {t : TypeId} {d : TypeDesc} (hu : Try.prog.underlying t = some d) (hd : d.isRow = true) (hi : (Try.prog.info? t).map (·.size) = some n)
    (dst : Option Tmp) (x : Operand) (ty : TypeId) (pos : String) (after : Array Edge) (guard : Option (Nat × Bool)) (a : Act) (W : World) (K : Act → World → Prop) (Q : Exit → Act → World → Prop) (h : AggOk n W (a.eval x)) :
    Oper.wp Try.prog { dst := dst, op := .load t x, type := ty, pos := pos, after := after, guard := guard } a W K Q = K (a.put dst (loadN n W (a.eval x))) W := by
  obtain ⟨b, o, cs, hx, hl, hr⟩ := h
  have e : loadN n W (a.eval x) = .agg cs.toArray := by rw [hx]; exact loadN_eq hr hl
  rw [e]
  have hrun := run_loadVar_mid (P := Try.prog) W b o t cs d hr hu hd (by rw [hl]; exact hi)
  unfold Oper.wp execOp
  simp only [hx, Instr.loadAt, Instr.sureAddr, Sem.run_bind, Sem.run_pure, Result.andThen_ok, hrun]
  rfl
/-- n cells may be stored there -/
def StoOk (n : Nat) (W : World) (p v : Value) : Prop := ∃ b o, ∃ cs : List Value, p = .pointer (some ⟨b, o, none⟩) ∧ v = .agg cs.toArray ∧ cs.length = n ∧ W.there b o n ∧ ∀ u ∈ cs, u.oneCell' = true
theorem wp_store_agg {n : Nat} {t : TypeId} (hi : (Try.prog.info? t).map (·.size) = some n)
    (x y : Operand) (ty : TypeId) (pos : String) (after : Array Edge) (guard : Option (Nat × Bool)) (a : Act) (W : World) (K : Act → World → Prop) (Q : Exit → Act → World → Prop) (h : StoOk n W (a.eval x) (a.eval y)) :
    Oper.wp Try.prog { dst := none, op := .store t x y, type := ty, pos := pos, after := after, guard := guard } a W K Q = K a (storeMid W (a.eval x) (a.eval y)) := by
  obtain ⟨b, o, cs, hx, hy, hl, ht, h1⟩ := h
  have e : storeMid W (a.eval x) (a.eval y) = W.setCells b o cs.toArray.toList := by rw [hx, hy]; rfl
  rw [e]
  have hrun := run_storeVar_mid (P := Try.prog) W b o t cs.toArray (by rw [List.size_toArray, hl]; exact ht) (by rw [List.size_toArray, hl]; exact hi) (all_oneCell_toArray h1)
  unfold Oper.wp execOp
  simp only [hx, hy, Instr.storeAt, Instr.sureAddr, Sem.run_bind, Sem.run_pure, Result.andThen_ok, hrun]
  rfl
theorem storeMid_eq (W : World) (b o : Nat) (cs : List Value) : storeMid W (.pointer (some ⟨b, o, none⟩)) (.agg cs.toArray) = W.setCells b o cs := by
  show W.setCells b o cs.toArray.toList = _
  rw [List.toList_toArray]
theorem wp_load_ent (dst : Option Tmp) (x : Operand) (ty : TypeId) (pos : String) (after : Array Edge) (guard : Option (Nat × Bool)) (a : Act) (W : World) (K : Act → World → Prop) (Q : Exit → Act → World → Prop) (h : AggOk 41 W (a.eval x)) :
    Oper.wp Try.prog { dst := dst, op := .load 47 x, type := ty, pos := pos, after := after, guard := guard } a W K Q = K (a.put dst (loadN 41 W (a.eval x))) W :=
  wp_load_agg Try.underlying47 rfl (by kernel_rfl) dst x ty pos after guard a W K Q h
theorem wp_store_ent (x y : Operand) (ty : TypeId) (pos : String) (after : Array Edge) (guard : Option (Nat × Bool)) (a : Act) (W : World) (K : Act → World → Prop) (Q : Exit → Act → World → Prop) (h : StoOk 41 W (a.eval x) (a.eval y)) :
    Oper.wp Try.prog { dst := none, op := .store 47 x y, type := ty, pos := pos, after := after, guard := guard } a W K Q = K a (storeMid W (a.eval x) (a.eval y)) :=
  wp_store_agg (by kernel_rfl) x y ty pos after guard a W K Q h
/-- a block of so many cells is written whole -/
theorem setCells_whole {W : World} {g : Nat} {t : TypeId} {cur : Array Value} {cs : List Value} (h : Blk W g t cur) (hl : cur.size = cs.length) : Blk (W.setCells g 0 cs) g t cs.toArray := by
  have := setCells_blk (t := t) cs 0 cur W h (by omega)
  unfold Blk
  rw [this]
  have e : List.drop (0 + cs.length) cur.toList = [] := List.drop_of_length_le (by simp [hl])
  rw [e, List.take_zero, List.nil_append, List.append_nil]
theorem blk_there {W : World} {g : Nat} {t : TypeId} {cur : Array Value} (h : Blk W g t cur) {o n : Nat} (hl : o + n ≤ cur.size) : W.there g o n := fun j hj => ⟨by rw [h.cell, Array.getElem?_eq_getElem (by omega)]; rfl, h.frozen _⟩
theorem blk_rangeN {W : World} {g : Nat} {t : TypeId} {cs : List Value} (h : Blk W g t cs.toArray) : W.rangeAt g 0 cs := fun j v hv => by
  rw [Nat.zero_add, h.cell]
  exact List.getElem?_toArray.trans hv
theorem entCells_set (e : Ent) (rv pv rv' pv' : Value) : ((entCells e rv pv).toArray.setIfInBounds 32 rv').setIfInBounds 40 pv' = (entCells e rv' pv').toArray := by
  unfold entCells
  rw [List.setIfInBounds_toArray, List.setIfInBounds_toArray]
  congr 1
theorem entCells_get (e : Ent) (rv pv : Value) (j : Nat) : (entCells e rv pv)[32 + j]? = (entTail e rv pv)[j]? := by
  unfold entCells
  rw [List.getElem?_append_right (by rw [bytesOf_length]; omega), bytesOf_length, Nat.add_sub_cancel_left]
end Go.Proofs.Ytoamjdjmfhdaeaa
