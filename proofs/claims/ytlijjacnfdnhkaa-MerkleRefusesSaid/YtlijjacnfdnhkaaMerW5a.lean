/- climb, of the program and of the reference. -/
import Derived.Test.YtlijjacnfdnhkaaMerW4
namespace Go.Proofs.Ytlijjacnfdnhkaa
open Go.RowKit
set_option linter.unusedVariables false
open ShaW Sha

/-- v points to the cells of a key -/
def KeyOk (W : World) (v : Value) : Prop := ∃ ad, ∃ k : Ky, v = .pointer (some ad) ∧ ∀ j u, (bytesOf 32 k)[j]? = some u → W.cell? (ad.add j) = some u
/-- what lies there -/
def loadK (W : World) (v : Value) : Value :=
  match v with
  | .pointer (some ad) => .agg ((List.range 32).map (fun j => (W.cell? (ad.add j)).getD undef)).toArray
  | _ => .agg #[]
theorem loadK_eq {W : World} {ad : Addr} {k : Ky} (h : ∀ j u, (bytesOf 32 k)[j]? = some u → W.cell? (ad.add j) = some u) : loadK W (.pointer (some ad)) = keyV k := by
  show Value.agg _ = Value.agg _
  congr 2
  unfold bytesOf
  refine List.map_congr_left (fun j hj => ?_)
  rw [h j _ (bytesOf_get k (List.mem_range.1 hj))]
  rfl
theorem keyOk_mk {W : World} {ad : Addr} {k : Ky} (h : ∀ j u, (bytesOf 32 k)[j]? = some u → W.cell? (ad.add j) = some u) : KeyOk W (.pointer (some ad)) := ⟨ad, k, rfl, h⟩
theorem blk_key {W : World} {g : Nat} {k : Ky} (h : Blk W g 24 (bytesOf 32 k).toArray) : ∀ j u, (bytesOf 32 k)[j]? = some u → W.cell? ((⟨g, 0, none⟩ : Addr).add j) = some u := by
  intro j u hu
  rw [add_flat, Nat.zero_add, h.cell]
  exact List.getElem?_toArray.trans hu
theorem wp_load_k (dst : Option Tmp) (x : Operand) (ty : TypeId) (pos : String) (after : Array Edge) (guard : Option (Nat × Bool)) (a : Act) (W : World) (K : Act → World → Prop) (Q : Exit → Act → World → Prop) (h : KeyOk W (a.eval x)) :
    Oper.wp Try.prog { dst := dst, op := .load 24 x, type := ty, pos := pos, after := after, guard := guard } a W K Q = K (a.put dst (loadK W (a.eval x))) W := by
  obtain ⟨ad, k, hv, hk⟩ := h
  have e : loadK W (a.eval x) = keyV k := by rw [hv]; exact loadK_eq hk
  rw [e]
  have hl : (loadCells ad (bytesOf 32 k).length).run Try.prog W = .ok (bytesOf 32 k).toArray W :=
    run_loadCells_list (P := Try.prog) W ad (bytesOf 32 k) (fun j v hv => hk j v hv)
  have hrun : (loadVar 24 ad).run Try.prog W = .ok (keyV k) W := by
    rw [bytesOf_length] at hl
    have hagg : (isAgg 24).run Try.prog W = .ok true W := by
      unfold isAgg
      rw [Sem.run_bind, run_underlying Try.underlying24 W]
      rfl
    obtain ⟨i0, hi0, hz0, hz1, hz2⟩ := info_parts key_info
    simp [loadVar, Sem.run_bind, hagg, sizeOf, typeInfo, hi0, hz1, hl]
  unfold Oper.wp execOp
  simp only [hv, Instr.loadAt, Instr.sureAddr, Sem.run_bind, Sem.run_pure, Result.andThen_ok, hrun]
  rfl
theorem results_cell_tmp {P : Program} {fn : Func} {p q : Tmp} {ty : TypeId} (h : fn.results = #[.cell p ty, .tmp q]) (tmps : Array Value) (w : World) (g : Nat) (t : TypeId) (cs : Array Value) (fr : Nat × Nat) (d : TypeDesc)
    (hp : tmps.getD p undef = .pointer (some ⟨g, 0, none⟩)) (hg : w.heap[g]? = some (.cells cs t fr))
    (hu : P.underlying ty = some d) (hd : (match d with | .struct _ | .array _ _ => true | _ => false) = true) (hi : (P.info? ty).map (·.size) = some cs.size) :
    (results fn tmps).run P w = .ok (.tuple #[.agg cs, tmps.getD q undef]) w := by
  have hp' : tmps[p]?.getD undef = .pointer (some ⟨g, 0, none⟩) := by simpa using hp
  simp [results, h, hp', asAddr, run_loadVar_row w g t ty cs fr d hg hu hd hi]
theorem keyAt_drew (W : World) : KeyAt ((W.alloc (.cells #[.int .u8 0, .int .u8 0, .int .u8 0, .int .u8 0, .int .u8 0, .int .u8 0, .int .u8 0, .int .u8 0, .int .u8 0, .int .u8 0, .int .u8 0, .int .u8 0, .int .u8 0, .int .u8 0, .int .u8 0, .int .u8 0, .int .u8 0, .int .u8 0, .int .u8 0, .int .u8 0, .int .u8 0, .int .u8 0, .int .u8 0, .int .u8 0, .int .u8 0, .int .u8 0, .int .u8 0, .int .u8 0, .int .u8 0, .int .u8 0, .int .u8 0, .int .u8 0] 24)).drew) (.pointer (some ⟨W.heap.size, 0, none⟩)) := ⟨_, _, rfl, heap_alloc_new W _, rfl⟩
theorem keyAt_new (W : World) : KeyAt (W.alloc (.cells #[.int .u8 0, .int .u8 0, .int .u8 0, .int .u8 0, .int .u8 0, .int .u8 0, .int .u8 0, .int .u8 0, .int .u8 0, .int .u8 0, .int .u8 0, .int .u8 0, .int .u8 0, .int .u8 0, .int .u8 0, .int .u8 0, .int .u8 0, .int .u8 0, .int .u8 0, .int .u8 0, .int .u8 0, .int .u8 0, .int .u8 0, .int .u8 0, .int .u8 0, .int .u8 0, .int .u8 0, .int .u8 0, .int .u8 0, .int .u8 0, .int .u8 0, .int .u8 0] 24)) (.pointer (some ⟨W.heap.size, 0, none⟩)) := ⟨_, _, rfl, heap_alloc_new W _, rfl⟩
/-- a list of keys, to be read and cut -/
def KeysAt (w : World) (A : Option Addr) (m c : Nat) (ps : List Ky) : Prop :=
  ps.length = m ∧ m ≤ c ∧ c ≤ 9223372036854775807 ∧ ∃ g o, (0 < m → A = some ⟨g, o, none⟩) ∧ ∀ j u, (keysOf ps)[j]? = some u → w.cell? ⟨g, o + j, none⟩ = some u
theorem KeysAt.below {w w' : World} {A : Option Addr} {m c : Nat} {ps : List Ky} (h : KeysAt w A m c ps) (hb : Below w.heap.size w w') : KeysAt w' A m c ps := by
  obtain ⟨h1, h2, h3, g, o, hA, hc⟩ := h
  exact ⟨h1, h2, h3, g, o, hA, fun j u hu => (hb.cell (p := ⟨g, o + j, none⟩) (World.block_lt_of_cell? w _ (hc j u hu))).trans (hc j u hu)⟩
theorem keysOf_take {ps : List Ky} {x : Ky} {m : Nat} (h : ps.length = m + 1) (hx : ps[m]? = some x) : ps = ps.take m ++ [x] := by
  obtain ⟨hlt, e⟩ := List.getElem?_eq_some_iff.1 hx
  rw [← e, ← List.take_succ_eq_append_getElem hlt, List.take_of_length_le (by omega)]
theorem KeysAt.front {w : World} {A : Option Addr} {m c : Nat} {ps : List Ky} (h : KeysAt w A (m + 1) c ps) : KeysAt w A m c (ps.take m) := by
  obtain ⟨h1, h2, h3, g, o, hA, hc⟩ := h
  have hlt : m < ps.length := by omega
  have e := keysOf_take h1 (List.getElem?_eq_getElem hlt)
  refine ⟨by rw [List.length_take]; omega, by omega, h3, g, o, fun _ => hA (by omega), fun j u hu => hc j u ?_⟩
  rw [e, keysOf_append]
  exact (List.getElem?_append_left (List.getElem?_eq_some_iff.1 hu).1).trans hu
theorem KeysAt.last {w : World} {m c g o : Nat} {ps : List Ky} (h : KeysAt w (some ⟨g, o, none⟩) (m + 1) c ps) : ∀ j u, (bytesOf 32 (ps.getD m (fun _ => 0)))[j]? = some u → w.cell? ((⟨g, o + m * 32, none⟩ : Addr).add j) = some u := by
  obtain ⟨h1, h2, h3, g', o', hA, hc⟩ := h
  have eA := hA (by omega)
  injection eA with eA
  injection eA with e1 e2
  subst e1 e2
  have hlt : m < ps.length := by omega
  have e := keysOf_take h1 (List.getElem?_eq_getElem hlt)
  have hx : ps.getD m (fun _ => 0) = ps[m] := by simp [List.getD_eq_getElem?_getD, hlt]
  intro j u hu
  rw [hx] at hu
  rw [add_flat, Nat.add_assoc]
  refine hc (m * 32 + j) u ?_
  rw [e, keysOf_append, List.getElem?_append_right (by rw [keysOf_len, List.length_take]; omega), keysOf_len, List.length_take, show m * 32 + j - min m ps.length * 32 = j by rw [Nat.min_eq_left (by omega)]; omega, keysOf_one]
  exact hu
theorem climb_take (h : Ky) (i n m : Nat) (ps : List Ky) : climbK h i n (fun r => (ps.take m).getD r (fun _ => 0)) m = climbK h i n (fun r => ps.getD r (fun _ => 0)) m :=
  climbK_congr h n i m _ _ (fun r hr => by simp [List.getD_eq_getElem?_getD, hr])
end Go.Proofs.Ytlijjacnfdnhkaa
