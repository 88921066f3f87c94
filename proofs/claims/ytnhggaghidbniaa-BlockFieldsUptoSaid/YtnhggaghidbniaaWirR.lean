/- Fields read. -/
import Derived.Test.YtnhggaghidbniaaWirF
import Derived.Great.BuildSlice
namespace Go.Proofs.Ytnhggaghidbniaa
open Go.RowKit
set_option linter.unusedVariables false
set_option linter.unusedSimpArgs false
open Wir

theorem bytesL_take (b : List UInt8) (k : Nat) : bytesL (b.take k) = (bytesL b).take k := by unfold bytesL; rw [List.map_take]
theorem bytesL_drop (b : List UInt8) (k : Nat) : bytesL (b.drop k) = (bytesL b).drop k := by unfold bytesL; rw [List.map_drop]
theorem und_elem : Try.prog.underlying 33 = some (.slice (Try.prog.elem 33)) := by kernel_rfl
theorem size_u8 (w : World) : (sizeOf (Try.prog.elem 33)).run Try.prog w = .ok 1 w := by kernel_rfl
/-- what slicing of bytes that can be seen gives -/
theorem SeeB.len_ {w : World} {v : Value} {b : List UInt8} (h : SeeB w v b) (W : World) : (Builtin.len_ #[33] 3 #[v]).run Try.prog W = .ok (.int .i64 (b.length : Int)) W := by
  obtain ⟨A, c, rfl, _⟩ := h
  exact run_len_slice (h := und_elem) ..
theorem SeeB.from_ {w : World} {v : Value} {b : List UInt8} (h : SeeB w v b) {k : Nat} (hk : k ≤ b.length) :
    ∃ v', SeeB w v' (b.drop k) ∧ (∀ W, (Instr.slice 33 v (some (.int .i64 (k : Int))) none none).run Try.prog W = .ok v' W) ∧ ∀ W, (Instr.sliceAt 33 v (some (.int .i64 (k : Int))) none none).run Try.prog W = .ok v' W := by
  obtain ⟨A, c, rfl, h1, h2, hr⟩ := h
  have hs : ∀ W, (Instr.slice 33 (.slice A b.length c) (some (.int .i64 (k : Int))) none none).run Try.prog W = .ok (sliced A k b.length c 1) W := fun W => by
    rw [run_slice_l (ht := und_elem) (h0 := by omega) (h1 := by omega), size_u8]
    rfl
  refine ⟨sliced A k b.length c 1, ⟨_, _, by unfold sliced; rw [List.length_drop], ?_, ?_, ?_⟩, hs, fun W => by rw [run_sliceAt_slice (h := und_elem)]; exact hs W⟩
  · rw [List.length_drop]; omega
  · omega
  · have := hr.cut hk h1
    rw [Nat.mul_one, ← bytesL_drop, ← List.length_drop] at this
    rw [Nat.mul_one]
    exact this
theorem SeeB.upto_ {w : World} {v : Value} {b : List UInt8} (h : SeeB w v b) {k : Nat} (hk : k ≤ b.length) (K : IntKind) :
    ∃ v', SeeB w v' (b.take k) ∧ (∀ W, (Instr.slice 33 v none (some (.int K (k : Int))) none).run Try.prog W = .ok v' W) ∧ ∀ W, (Instr.sliceAt 33 v none (some (.int K (k : Int))) none).run Try.prog W = .ok v' W := by
  obtain ⟨A, c, rfl, h1, h2, hr⟩ := h
  have hs : ∀ W, (Instr.slice 33 (.slice A b.length c) none (some (.int K (k : Int))) none).run Try.prog W = .ok (sliced A 0 k c 1) W := fun W => by
    rw [run_slice_h (ht := und_elem) (h0 := by omega) (h2 := by omega), size_u8]
    rfl
  have hl : (b.take k).length = k := by rw [List.length_take]; omega
  refine ⟨sliced A 0 k c 1, ⟨A, c, ?_, by rw [hl]; omega, h2, ?_⟩, hs, fun W => by rw [run_sliceAt_slice (h := und_elem)]; exact hs W⟩
  · rw [hl]
    unfold sliced
    rw [Nat.sub_zero, Nat.sub_zero]
    congr 1
    split
    · rfl
    · cases A with
      | none => rfl
      | some a => simp [Addr.add]
  · rw [hl]
    refine ⟨by rw [bytesL_len, hl, Nat.mul_one], fun hp => ?_⟩
    obtain ⟨ad, e, hb, hc⟩ := hr.2 (by omega)
    refine ⟨ad, e, hb, fun j u hu => hc j u ?_⟩
    rw [bytesL_take, List.getElem?_take] at hu
    split at hu
    · exact hu
    · cases hu
theorem SeeB.mid_ {w : World} {v : Value} {b : List UInt8} (h : SeeB w v b) {k m : Nat} (hk : k ≤ m) (hm : m ≤ b.length) :
    ∃ v', SeeB w v' ((b.drop k).take (m - k)) ∧ (∀ W, (Instr.slice 33 v (some (.int .i64 (k : Int))) (some (.int .i64 (m : Int))) none).run Try.prog W = .ok v' W) ∧ ∀ W, (Instr.sliceAt 33 v (some (.int .i64 (k : Int))) (some (.int .i64 (m : Int))) none).run Try.prog W = .ok v' W := by
  obtain ⟨A, c, rfl, h1, h2, hr⟩ := h
  have hs : ∀ W, (Instr.slice 33 (.slice A b.length c) (some (.int .i64 (k : Int))) (some (.int .i64 (m : Int))) none).run Try.prog W = .ok (sliced A k m c 1) W := fun W => by
    rw [run_slice_lh (ht := und_elem) (h0 := by omega) (h1 := by omega) (h2 := by omega), size_u8]
    rfl
  have hl : ((b.drop k).take (m - k)).length = m - k := by rw [List.length_take, List.length_drop]; omega
  refine ⟨sliced A k m c 1, ⟨_, _, by unfold sliced; rw [hl], by rw [hl]; omega, by omega, ?_⟩, hs, fun W => by rw [run_sliceAt_slice (h := und_elem)]; exact hs W⟩
  rw [hl]
  have hcut := hr.cut (k := k) (cap := c) (by omega) h1
  rw [Nat.mul_one] at hcut ⊢
  refine ⟨by rw [bytesL_len, hl, Nat.mul_one], fun hp => ?_⟩
  obtain ⟨ad, e, hb, hc⟩ := hcut.2 (by omega)
  refine ⟨ad, e, hb, fun j u hu => hc j u ?_⟩
  rw [bytesL_take, bytesL_drop, List.getElem?_take] at hu
  split at hu
  · exact hu
  · cases hu
theorem results_cell_tmp2 {P : Program} {fn : Func} {p q r : Tmp} {ty : TypeId} (h : fn.results = #[.cell p ty, .tmp q, .tmp r]) (tmps : Array Value) (w : World) (g : Nat) (t : TypeId) (cs : Array Value) (fr : Nat × Nat) (d : TypeDesc)
    (hp : tmps.getD p undef = .pointer (some ⟨g, 0, none⟩)) (hg : w.heap[g]? = some (.cells cs t fr))
    (hu : P.underlying ty = some d) (hd : (match d with | .struct _ | .array _ _ => true | _ => false) = true) (hi : (P.info? ty).map (·.size) = some cs.size) :
    (results fn tmps).run P w = .ok (.tuple #[.agg cs, tmps.getD q undef, tmps.getD r undef]) w := by
  have hp' : tmps[p]?.getD undef = .pointer (some ⟨g, 0, none⟩) := by simpa using hp
  simp [results, h, hp', asAddr, run_loadVar_row w g t ty cs fr d hg hu hd hi]
/-- a field in a block of its own -/
theorem row_step {a w : World} {g : Nat} {old : Array Value} {t : TypeId} (hb : Below a.heap.size a w) (hg : a.heap.size ≤ g) (hk : Blk w g t old) (cs : Array Value) : Below a.heap.size a (w.setRow g cs) ∧ Blk (w.setRow g cs) g t cs :=
  ⟨below_setRow hb hg cs, setRow_same w g cs old t hk⟩
theorem rd_bad : ∀ (b : List UInt8) (i n : Nat) {e : Int}, rd b i n = .bad e → e = 4 ∨ e = 5 ∨ e = 6
  | [], i, n, e, h => by unfold rd at h; injection h with h; omega
  | c :: r, i, n, e, h => by
    unfold rd at h
    split at h
    · injection h with h; omega
    split at h
    · injection h with h; omega
    split at h
    · cases h
    · exact rd_bad r _ _ h
theorem readV_bad {b : List UInt8} {e : Int} (h : readV b = .bad e) : e = 4 ∨ e = 5 ∨ e = 6 := rd_bad b 0 0 h
/-- what reading a field leaves -/
def FRead (w : World) (r : FR) (e : Ending) (w' : World) : Prop :=
  Below w.heap.size w w' ∧ match r with
  | .ok f s => ∃ u, e = .returned (.tuple #[fldV f u, .int .i64 (s : Int), .int .i64 0]) ∧ OwnB w' w.heap.size u f.bytes
  | .bad c => c ≠ 0 ∧ e = .returned (.tuple #[fldV ⟨0, 0, 0, []⟩ (.slice none 0 0), .int .i64 0, .int .i64 c])
theorem readF_bad1 {b : List UInt8} {e : Int} (h : readV b = .bad e) : readF b = .bad e := by unfold readF; rw [h]
theorem readF_bad2 {b : List UInt8} {n s : Nat} (h : readV b = .ok n s) (hc : n / 8 < 1 ∨ 536870911 < n / 8 ∨ ¬ (n % 8 = 0 ∨ n % 8 = 2)) : readF b = .bad 4 := by unfold readF; rw [h]; simp only []; rw [if_pos hc]
theorem readF_bad3 {b : List UInt8} {n s : Nat} {e : Int} (h : readV b = .ok n s) (hc : ¬ (n / 8 < 1 ∨ 536870911 < n / 8 ∨ ¬ (n % 8 = 0 ∨ n % 8 = 2))) (h2 : readV (b.drop s) = .bad e) : readF b = .bad e := by unfold readF; rw [h]; simp only []; rw [if_neg hc, h2]
theorem readF_num {b : List UInt8} {n s v m : Nat} (h : readV b = .ok n s) (hc : ¬ (n / 8 < 1 ∨ 536870911 < n / 8 ∨ ¬ (n % 8 = 0 ∨ n % 8 = 2))) (h2 : readV (b.drop s) = .ok v m) (h0 : n % 8 = 0) : readF b = .ok ⟨(n / 8 : Nat), 0, v, []⟩ (s + m) := by unfold readF; rw [h]; simp only []; rw [if_neg hc, h2]; simp only []; rw [if_pos h0]
theorem readF_short {b : List UInt8} {n s v m : Nat} (h : readV b = .ok n s) (hc : ¬ (n / 8 < 1 ∨ 536870911 < n / 8 ∨ ¬ (n % 8 = 0 ∨ n % 8 = 2))) (h2 : readV (b.drop s) = .ok v m) (h0 : ¬ n % 8 = 0) (hl : (b.drop (s + m)).length < v) : readF b = .bad 5 := by unfold readF; rw [h]; simp only []; rw [if_neg hc, h2]; simp only []; rw [if_neg h0, if_pos hl]
theorem readF_byt {b : List UInt8} {n s v m : Nat} (h : readV b = .ok n s) (hc : ¬ (n / 8 < 1 ∨ 536870911 < n / 8 ∨ ¬ (n % 8 = 0 ∨ n % 8 = 2))) (h2 : readV (b.drop s) = .ok v m) (h0 : ¬ n % 8 = 0) (hl : ¬ (b.drop (s + m)).length < v) : readF b = .ok ⟨(n / 8 : Nat), 2, 0, (b.drop (s + m)).take v⟩ (s + m + v) := by unfold readF; rw [h]; simp only []; rw [if_neg hc, h2]; simp only []; rw [if_neg h0, if_neg hl]
theorem and7 (n : Nat) (h : n < 2 ^ 64) : bits .and .u64 (n : Int) 7 = ((n % 8 : Nat) : Int) := by
  have := bits_and_u64_nat n 7 (by omega) (by omega)
  rw [show ((7 : Nat) : Int) = 7 from rfl] at this
  rw [this, show (7 : Nat) = 2 ^ 3 - 1 by decide, Nat.and_two_pow_sub_one_eq_mod]
theorem shr3 (m : Nat) : Int.fdiv (m : Int) (2 ^ min (Int.toNat 3) IntKind.u64.bits) = ((m / 8 : Nat) : Int) := by
  rw [show (2 : Int) ^ min (Int.toNat 3) IntKind.u64.bits = 8 by decide, Int.fdiv_eq_ediv_of_nonneg _ (by omega)]
  omega
theorem fld_one {a b c : Int} {k1 k2 k3 : IntKind} {v : Value} (h : v.oneCell' = true) : (#[Value.int k1 a, .int k2 b, .int k3 c, v] : Array Value).all (·.oneCell') = true := by
  simp [h]; exact ⟨rfl, rfl, rfl⟩
end Go.Proofs.Ytnhggaghidbniaa
