/- Headers and blocks in memory; the program's header message. -/
import Derived.Test.YtnhggaghidbniaaBlkA
import Derived.Test.YtnhggaghidbniaaMid
namespace Go.Proofs.Ytnhggaghidbniaa
open Go.RowKit
set_option linter.unusedVariables false
set_option linter.unusedSimpArgs false
open Wir

def hdCells (x : Hd) : List Value := [.int .i64 x.h, .int .i64 x.t, .int .i64 x.p] ++ (bytesOf 32 x.par ++ (bytesOf 32 x.txs ++ (bytesOf 32 x.app ++ bytesOf 32 x.res)))
theorem hdCells_len (x : Hd) : (hdCells x).length = 131 := by unfold hdCells; simp only [List.length_append, bytesOf_length]; rfl
theorem hdCells_one (x : Hd) : ∀ u ∈ hdCells x, u.oneCell' = true := by
  intro u hu
  unfold hdCells at hu
  simp only [List.mem_append, List.mem_cons, List.not_mem_nil, or_false] at hu
  rcases hu with (rfl | rfl | rfl) | h | h | h | h
  · rfl
  · rfl
  · rfl
  · exact bytesOf_one _ _ u h
  · exact bytesOf_one _ _ u h
  · exact bytesOf_one _ _ u h
  · exact bytesOf_one _ _ u h
theorem hd_par (x : Hd) {j : Nat} {u : Value} (h : (bytesOf 32 x.par)[j]? = some u) : (hdCells x)[3 + j]? = some u := by
  have hj := (List.getElem?_eq_some_iff.1 h).1
  unfold hdCells
  rw [List.getElem?_append_right (by simp), show 3 + j - [Value.int .i64 x.h, .int .i64 x.t, .int .i64 x.p].length = j by simp, List.getElem?_append_left hj]
  exact h
theorem hd_txs (x : Hd) {j : Nat} {u : Value} (h : (bytesOf 32 x.txs)[j]? = some u) : (hdCells x)[35 + j]? = some u := by
  have hj := (List.getElem?_eq_some_iff.1 h).1
  unfold hdCells
  rw [List.getElem?_append_right (by simp; omega), show 35 + j - [Value.int .i64 x.h, .int .i64 x.t, .int .i64 x.p].length = 32 + j by simp; omega, List.getElem?_append_right (by rw [bytesOf_length]; omega), bytesOf_length, show 32 + j - 32 = j by omega, List.getElem?_append_left hj]
  exact h
theorem hd_app (x : Hd) {j : Nat} {u : Value} (h : (bytesOf 32 x.app)[j]? = some u) : (hdCells x)[67 + j]? = some u := by
  have hj := (List.getElem?_eq_some_iff.1 h).1
  unfold hdCells
  rw [List.getElem?_append_right (by simp; omega), show 67 + j - [Value.int .i64 x.h, .int .i64 x.t, .int .i64 x.p].length = 64 + j by simp; omega, List.getElem?_append_right (by rw [bytesOf_length]; omega), bytesOf_length, show 64 + j - 32 = 32 + j by omega, List.getElem?_append_right (by rw [bytesOf_length]; omega), bytesOf_length, show 32 + j - 32 = j by omega, List.getElem?_append_left hj]
  exact h
theorem hd_res (x : Hd) {j : Nat} {u : Value} (h : (bytesOf 32 x.res)[j]? = some u) : (hdCells x)[99 + j]? = some u := by
  have hj := (List.getElem?_eq_some_iff.1 h).1
  unfold hdCells
  rw [List.getElem?_append_right (by simp; omega), show 99 + j - [Value.int .i64 x.h, .int .i64 x.t, .int .i64 x.p].length = 96 + j by simp; omega, List.getElem?_append_right (by rw [bytesOf_length]; omega), bytesOf_length, show 96 + j - 32 = 64 + j by omega, List.getElem?_append_right (by rw [bytesOf_length]; omega), bytesOf_length, show 64 + j - 32 = 32 + j by omega, List.getElem?_append_right (by rw [bytesOf_length]; omega), bytesOf_length, show 32 + j - 32 = j by omega]
  exact h
abbrev hdV (x : Hd) : Value := .agg (hdCells x).toArray
/-- a header lies in a block from place o on -/
def HdAt (w : World) (g o : Nat) (x : Hd) : Prop := w.rangeAt g o (hdCells x)
theorem HdAt.num {w : World} {g o : Nat} {x : Hd} (h : HdAt w g o x) : w.cell? ⟨g, o, none⟩ = some (.int .i64 x.h) ∧ w.cell? ⟨g, o + 1, none⟩ = some (.int .i64 x.t) ∧ w.cell? ⟨g, o + 2, none⟩ = some (.int .i64 x.p) :=
  ⟨h 0 _ rfl, h 1 _ rfl, h 2 _ rfl⟩
theorem HdAt.key {w : World} {g o : Nat} {x : Hd} (h : HdAt w g o x) {s : Nat} {k : Ky} (hk : ∀ (j : Nat) (u : Value), (bytesOf 32 k)[j]? = some u → (hdCells x)[s + j]? = some u) : ∀ j u, (bytesOf 32 k)[j]? = some u → w.cell? ((⟨g, o + s, none⟩ : Addr).add j) = some u := fun j u hu => by
  rw [add_flat, Nat.add_assoc]
  exact h (s + j) u (hk j u hu)
theorem HdAt.below {w w' : World} {g o : Nat} {x : Hd} (h : HdAt w g o x) (hb : Below w.heap.size w w') : HdAt w' g o x := fun j u hu => (hb.cell (p := ⟨g, o + j, none⟩) (World.block_lt_of_cell? w _ (h j u hu))).trans (h j u hu)
/-- the transactions of a block -/
def TxsAt (w : World) (tv : Value) (txs : List (List UInt8)) : Prop :=
  ∃ A c, tv = .slice A txs.length c ∧ txs.length ≤ c ∧ c ≤ 9223372036854775807 ∧ ∃ g o, (0 < txs.length → A = some ⟨g, o, none⟩) ∧ ∀ (j : Nat) (b : List UInt8), txs[j]? = some b → ∃ u, w.cell? ⟨g, o + j, none⟩ = some u ∧ SeeB w u b
theorem TxsAt.below {w w' : World} {tv : Value} {txs : List (List UInt8)} (h : TxsAt w tv txs) (hb : Below w.heap.size w w') : TxsAt w' tv txs := by
  obtain ⟨A, c, h1, h2, h3, g, o, hA, hc⟩ := h
  refine ⟨A, c, h1, h2, h3, g, o, hA, fun j b hj => ?_⟩
  obtain ⟨u, e, hs⟩ := hc j b hj
  exact ⟨u, (hb.cell (p := ⟨g, o + j, none⟩) (World.block_lt_of_cell? w _ e)).trans e, hs.below hb⟩
theorem TxsAt.oneCell {w : World} {tv : Value} {txs : List (List UInt8)} (h : TxsAt w tv txs) : tv.oneCell' = true := by
  obtain ⟨A, c, rfl, _⟩ := h; rfl
theorem TxsAt.nil (w : World) : TxsAt w (.slice none 0 0) [] := ⟨none, 0, rfl, Nat.le_refl _, by omega, 0, 0, fun h => absurd h (Nat.lt_irrefl _), fun j b h => by simp at h⟩
def blCells (x : Hd) (tv : Value) : List Value := hdCells x ++ [tv]
theorem blCells_len (x : Hd) (tv : Value) : (blCells x tv).length = 132 := by unfold blCells; rw [List.length_append, hdCells_len]; rfl
theorem blCells_one {x : Hd} {tv : Value} (h : tv.oneCell' = true) : ∀ u ∈ blCells x tv, u.oneCell' = true := by
  intro u hu
  rcases List.mem_append.1 hu with hu | hu
  · exact hdCells_one x u hu
  · rw [List.mem_singleton.1 hu]; exact h
abbrev blV (x : Hd) (tv : Value) : Value := .agg (blCells x tv).toArray
theorem blCells_hd {x : Hd} {tv : Value} {j : Nat} {u : Value} (h : (hdCells x)[j]? = some u) : (blCells x tv)[j]? = some u := by
  unfold blCells
  rw [List.getElem?_append_left (List.getElem?_eq_some_iff.1 h).1]
  exact h
theorem blCells_tv (x : Hd) (tv : Value) : (blCells x tv)[131]? = some tv := by
  unfold blCells
  rw [List.getElem?_append_right (by rw [hdCells_len]; omega), hdCells_len]
  rfl
theorem wp_load_hd (dst : Option Tmp) (x : Operand) (ty : TypeId) (pos : String) (after : Array Edge) (guard : Option (Nat × Bool)) (a : Act) (W : World) (K : Act → World → Prop) (Q : Exit → Act → World → Prop) (h : AggOk 131 W (a.eval x)) :
    Oper.wp Try.prog { dst := dst, op := .load 25 x, type := ty, pos := pos, after := after, guard := guard } a W K Q = K (a.put dst (loadN 131 W (a.eval x))) W :=
  wp_load_agg Try.underlying25 rfl (by kernel_rfl) dst x ty pos after guard a W K Q h
theorem wp_store_hd (x y : Operand) (ty : TypeId) (pos : String) (after : Array Edge) (guard : Option (Nat × Bool)) (a : Act) (W : World) (K : Act → World → Prop) (Q : Exit → Act → World → Prop) (h : StoOk 131 W (a.eval x) (a.eval y)) :
    Oper.wp Try.prog { dst := none, op := .store 25 x y, type := ty, pos := pos, after := after, guard := guard } a W K Q = K a (storeMid W (a.eval x) (a.eval y)) :=
  wp_store_agg (by kernel_rfl) x y ty pos after guard a W K Q h
theorem wp_load_bl (dst : Option Tmp) (x : Operand) (ty : TypeId) (pos : String) (after : Array Edge) (guard : Option (Nat × Bool)) (a : Act) (W : World) (K : Act → World → Prop) (Q : Exit → Act → World → Prop) (h : AggOk 132 W (a.eval x)) :
    Oper.wp Try.prog { dst := dst, op := .load 28 x, type := ty, pos := pos, after := after, guard := guard } a W K Q = K (a.put dst (loadN 132 W (a.eval x))) W :=
  wp_load_agg Try.underlying28 rfl (by kernel_rfl) dst x ty pos after guard a W K Q h
theorem wp_store_bl (x y : Operand) (ty : TypeId) (pos : String) (after : Array Edge) (guard : Option (Nat × Bool)) (a : Act) (W : World) (K : Act → World → Prop) (Q : Exit → Act → World → Prop) (h : StoOk 132 W (a.eval x) (a.eval y)) :
    Oper.wp Try.prog { dst := none, op := .store 28 x y, type := ty, pos := pos, after := after, guard := guard } a W K Q = K a (storeMid W (a.eval x) (a.eval y)) :=
  wp_store_agg (by kernel_rfl) x y ty pos after guard a W K Q h

theorem wpList_buildTo {P : Program} {ops : Array Oper} {rest : List Oper} {o : Oper} {a : Act} {w : World} {Q : Exit → Act → World → Prop} (hgd : o.guard = none) (t : TypeId) (parts : Array (Nat × Operand)) (ho : o.op = .build t parts) (cells : Array Value)
    (hf : P.built t (parts.map fun (i, x) => (i, a.eval x)).toList = some cells) (h : wpList P ops Q rest (a.put o.dst (.agg cells)) w) : wpList P ops Q (o :: rest) a w :=
  wpList_plain hgd fun _ hK => wp_build t parts ho (by rw [hf]; rfl) (by rw [hf]; exact hK _ _ h)
theorem wpList_buildL {P : Program} {ops : Array Oper} {rest : List Oper} {o : Oper} {a : Act} {w : World} {Q : Exit → Act → World → Prop} (hgd : o.guard = none) (t : TypeId) (l : List (Nat × Operand)) (ho : o.op = .build t l.toArray) (cells : Array Value)
    (hf : P.built t (l.map fun x => (x.1, a.eval x.2)) = some cells) (h : wpList P ops Q rest (a.put o.dst (.agg cells)) w) : wpList P ops Q (o :: rest) a w :=
  wpList_buildTo hgd t l.toArray ho cells (by rw [List.map_toArray]; exact hf) h
/-! ### four keys as a value -/
def k4 (a b c d : Ky) : List Value := bytesOf 32 a ++ (bytesOf 32 b ++ (bytesOf 32 c ++ bytesOf 32 d))
theorem built_k4 (a b c d : Ky) : Try.prog.built 71 [(0, keyV a), (1, keyV b), (2, keyV c), (3, keyV d)] = some (k4 a b c d).toArray := by kernel_rfl
theorem index_k4 (a b c d : Ky) (W : World) :
    (Instr.index 71 (.agg (k4 a b c d).toArray) (.int .i64 0)).run Try.prog W = .ok (keyV a) W ∧ (Instr.index 71 (.agg (k4 a b c d).toArray) (.int .i64 1)).run Try.prog W = .ok (keyV b) W ∧
    (Instr.index 71 (.agg (k4 a b c d).toArray) (.int .i64 2)).run Try.prog W = .ok (keyV c) W ∧ (Instr.index 71 (.agg (k4 a b c d).toArray) (.int .i64 3)).run Try.prog W = .ok (keyV d) W :=
  ⟨by kernel_rfl, by kernel_rfl, by kernel_rfl, by kernel_rfl⟩
theorem index_i3 (a b c : Int) (W : World) :
    (Instr.index 70 (.agg #[.int .i64 a, .int .i64 b, .int .i64 c]) (.int .i64 0)).run Try.prog W = .ok (.int .i64 a) W ∧ (Instr.index 70 (.agg #[.int .i64 a, .int .i64 b, .int .i64 c]) (.int .i64 1)).run Try.prog W = .ok (.int .i64 b) W ∧
    (Instr.index 70 (.agg #[.int .i64 a, .int .i64 b, .int .i64 c]) (.int .i64 2)).run Try.prog W = .ok (.int .i64 c) W := ⟨by kernel_rfl, by kernel_rfl, by kernel_rfl⟩
theorem SeeB.key {w : World} {g : Nat} {k : Ky} (h : Blk w g 23 (bytesOf 32 k).toArray) : SeeB w (.slice (some ⟨g, 0, none⟩) 32 32) (kL k) := by
  refine ⟨some ⟨g, 0, none⟩, 32, by rw [kL_len], by rw [kL_len]; exact Nat.le_refl _, by omega, ?_⟩
  rw [kL_len]
  have e : bytesL (kL k) = bytesOf 32 k := (bytesOf_bytesL 32 k).symm
  rw [e]
  exact ⟨by rw [bytesOf_length], fun _ => ⟨_, rfl, h.lt, blk_key h⟩⟩
def numAt (x : Hd) (j : Nat) : Int := match j with | 0 => x.h | 1 => x.t | _ => x.p
def keyAt (x : Hd) (j : Nat) : Ky := match j with | 0 => x.par | 1 => x.txs | 2 => x.app | _ => x.res
theorem fields_num (x : Hd) {j : Nat} (h : j < 3) : (hdFields x).take (j + 1) = (hdFields x).take j ++ [numF ((j : Int) + 1) (numAt x j)] := by
  match j, h with
  | 0, _ => rfl
  | 1, _ => rfl
  | 2, _ => rfl
theorem fields_key (x : Hd) {j : Nat} (h : j < 4) : (hdFields x).take (3 + j + 1) = (hdFields x).take (3 + j) ++ [bytF ((j : Int) + 4) (kL (keyAt x j))] := by
  match j, h with
  | 0, _ => rfl
  | 1, _ => rfl
  | 2, _ => rfl
  | 3, _ => rfl
theorem msg_snoc (l : List Fld) (f : Fld) : msg (l ++ [f]) = msg l ++ enc f := by rw [msg_append]; unfold msg; simp
theorem msg_take_le {l : List Fld} (k : Nat) : (msg (l.take k)).length ≤ (msg l).length := by
  have h := msg_append (l.take k) (l.drop k)
  rw [List.take_append_drop] at h
  rw [h, List.length_append]
  omega
theorem Hd.fits.num {x : Hd} (h : x.fits) (j : Nat) : -9223372036854775808 ≤ numAt x j ∧ numAt x j ≤ 9223372036854775807 := by
  obtain ⟨h1, h2, h3⟩ := h
  unfold numAt
  split <;> assumption
end Go.Proofs.Ytnhggaghidbniaa
