/- Parse, of the program and of the reference. -/
import Derived.Test.YtbhklhpeppaadaaKeyFm
import Derived.Test.YtbhklhpeppaadaaKeyL
namespace Go.Proofs.Ytbhklhpeppaadaa
open Go.RowKit
set_option linter.unusedVariables false
set_option linter.unusedSimpArgs false
open ShaW Sha

/-- the value of a digit, or -1 -/
def dI (b : UInt8) : Int := match unD b with | some x => (x : Int) | none => -1
theorem dI_some {b : UInt8} {x : Nat} (h : unD b = some x) : dI b = (x : Int) := by unfold dI; rw [h]
theorem dI_none {b : UInt8} (h : unD b = none) : dI b = -1 := by unfold dI; rw [h]
/-- the first n bytes are digits -/
def okL (l : List UInt8) (n : Nat) : Prop := ∀ i, i < n → (unD (l.getD i 0)).isSome = true
def dV (l : List UInt8) (i : Nat) : Nat := (unD (l.getD i 0)).getD 0
/-- the bytes that digits stand for -/
def unK (l : List UInt8) (i : Nat) : UInt8 := UInt8.ofNat (dV l (2 * i) * 16 + dV l (2 * i + 1))
theorem okL_step {l : List UInt8} {n : Nat} (h : okL l (2 * n)) (h1 : (unD (l.getD (2 * n) 0)).isSome = true) (h2 : (unD (l.getD (2 * n + 1) 0)).isSome = true) : okL l (2 * (n + 1)) := fun i hi => by
  rcases Nat.lt_or_ge i (2 * n) with h3 | h3
  · exact h i h3
  · have : i = 2 * n ∨ i = 2 * n + 1 := by omega
    rcases this with rfl | rfl
    · exact h1
    · exact h2
theorem unK_toNat {l : List UInt8} {i x y : Nat} (h1 : unD (l.getD (2 * i) 0) = some x) (h2 : unD (l.getD (2 * i + 1) 0) = some y) : (unK l i).toNat = x * 16 + y := by
  have a1 := unD_lt h1
  have a2 := unD_lt h2
  unfold unK dV
  rw [h1, h2]
  show (UInt8.ofNat (x * 16 + y)).toNat = _
  rw [UInt8.toNat_ofNat', Nat.mod_eq_of_lt (by omega)]

theorem idx_any (b : UInt8) (w : World) (n : Nat) :
    Calls Try.prog 27 #[.string ⟨#[48, 49, 50, 51, 52, 53, 54, 55, 56, 57, 97, 98, 99, 100, 101, 102]⟩, .int .u8 (b.toNat : Int)] (w.drewN n) fun e w' => e = .returned (.int .i64 (dI b)) ∧ w' = w.drewN n := by
  have h := Try.strings_IndexByte ⟨#[48, 49, 50, 51, 52, 53, 54, 55, 56, 57, 97, 98, 99, 100, 101, 102]⟩ (b.toNat : Int) (w.drewN n)
  have e : Lib.indexByte (⟨#[48, 49, 50, 51, 52, 53, 54, 55, 56, 57, 97, 98, 99, 100, 101, 102]⟩ : ByteArray).data.toList ((b.toNat : Int).toNat.toUInt8) = dI b := by
    have e1 : ((b.toNat : Int).toNat.toUInt8) = b := by simp
    rw [e1]
    exact idx_unD b
  rw [e] at h
  exact h

set_option maxHeartbeats 1000000 in
theorem digit_any (b : UInt8) (w : World) (n : Nat) :
    Calls Try.prog 39 #[.int .u8 (b.toNat : Int)] (w.drewN n) fun e w' => e = .returned (.int .i64 (dI b)) ∧ w' = w.drewN n := by
  obtain ⟨R, hR⟩ : ∃ R, dI b = R := ⟨_, rfl⟩
  rw [hR]
  have hr : R = if 48 ≤ b.toNat ∧ b.toNat ≤ 57 then (b.toNat : Int) - 48 else if 97 ≤ b.toNat ∧ b.toNat ≤ 102 then (b.toNat : Int) - 87 else -1 := by
    rw [← hR]
    unfold dI unD
    by_cases h1 : 48 ≤ b.toNat ∧ b.toNat ≤ 57
    · rw [if_pos h1, if_pos h1]; simp only []; omega
    · rw [if_neg h1, if_neg h1]
      by_cases h2 : 97 ≤ b.toNat ∧ b.toNat ≤ 102
      · rw [if_pos h2, if_pos h2]; simp only []; omega
      · rw [if_neg h2, if_neg h2]
  have hb := b.toNat_lt
  obtain ⟨x, hx⟩ : ∃ x, b.toNat = x := ⟨_, rfl⟩
  rw [hx] at hr hb ⊢
  have HR := Lib.hid hr
  clear hR hx hr
  by_cases h1 : 48 ≤ x
  · have g1 : (48 : Int) ≤ x := by omega
    by_cases h2 : x ≤ 57
    · have g2 : (x : Int) ≤ 57 := by omega
      have hf : (x : Int) - 48 = R := by rw [HR.out, if_pos ⟨h1, h2⟩]
      have HF := Lib.hid hf
      clear hf
      go_enter Try.func39, Try.ntmps39
      go_wp2_with fail
      go_ret
      exact ⟨by rw [← HF.out]; rfl, rfl⟩
    · have g2 : ¬ (x : Int) ≤ 57 := by omega
      by_cases h3 : 97 ≤ x
      · have g3 : (97 : Int) ≤ x := by omega
        by_cases h4 : x ≤ 102
        · have g4 : (x : Int) ≤ 102 := by omega
          have hf : (x : Int) - 97 + 10 = R := by rw [HR.out, if_neg (by omega), if_pos ⟨h3, h4⟩]; omega
          have HF := Lib.hid hf
          clear hf
          go_enter Try.func39, Try.ntmps39
          go_wp2_with fail
          go_ret
          exact ⟨by rw [← HF.out]; rfl, rfl⟩
        · have g4 : ¬ (x : Int) ≤ 102 := by omega
          have hf : -1 = R := by rw [HR.out, if_neg (by omega), if_neg (by omega)]
          have HF := Lib.hid hf
          clear hf
          go_enter Try.func39, Try.ntmps39
          go_wp2_with fail
          go_ret
          exact ⟨by rw [← HF.out]; rfl, rfl⟩
      · have g3 : ¬ (97 : Int) ≤ x := by omega
        have hf : -1 = R := by rw [HR.out, if_neg (by omega), if_neg (by omega)]
        have HF := Lib.hid hf
        clear hf
        go_enter Try.func39, Try.ntmps39
        go_wp2_with fail
        go_ret
        exact ⟨by rw [← HF.out]; rfl, rfl⟩
  · have g1 : ¬ (48 : Int) ≤ x := by omega
    have g3 : ¬ (97 : Int) ≤ x := by omega
    have hf : -1 = R := by rw [HR.out, if_neg (by omega), if_neg (by omega)]
    have HF := Lib.hid hf
    clear hf
    go_enter Try.func39, Try.ntmps39
    go_wp2_with fail
    go_ret
    exact ⟨by rw [← HF.out]; rfl, rfl⟩

theorem str_index (s : ByteArray) (i : Nat) (hi : i < s.data.toList.length) (w : World) : (Instr.index 9 (.string s) (.int .i64 (i : Int))).run Try.prog w = .ok (.int .u8 ((s.data.toList.getD i 0).toNat : Int)) w := by
  obtain ⟨⟨l⟩⟩ := s
  have hi' : i < l.length := hi
  have hget : (⟨⟨l⟩⟩ : ByteArray)[i]? = some (l.getD i 0) := by
    have : (⟨⟨l⟩⟩ : ByteArray)[i]? = some ((⟨⟨l⟩⟩ : ByteArray)[i]'hi') := getElem?_pos _ _ _
    rw [this]
    congr 1
    show l[i] = _
    simp [List.getD_eq_getElem?_getD, hi']
  simp only [Instr.index, asIntOf, Sem.run_bind, Sem.run_pure, Result.andThen_ok, run_underlying Try.underlying9 w]
  rw [if_pos (by omega : (0 : Int) ≤ (i : Int)), Int.toNat_natCast, hget]
  rfl
theorem bytesOf_set (m n : Nat) (f : Nat → UInt8) (b : UInt8) (hn : n < m) : (bytesOf m f).toArray.setIfInBounds n (.int .u8 (b.toNat : Int)) = (bytesOf m (fun j => if j = n then b else f j)).toArray := by
  rw [List.setIfInBounds_toArray]
  congr 1
  refine List.ext_getElem? fun i => ?_
  rw [List.getElem?_set]
  by_cases h : n = i
  · subst h
    rw [if_pos rfl, if_pos (by rw [bytesOf_length]; exact hn), bytesOf_get _ hn]
    simp
  · rw [if_neg h]
    rcases Nat.lt_or_ge i m with hi | hi
    · rw [bytesOf_get _ hi, bytesOf_get _ hi, if_neg (Ne.symm h)]
    · rw [List.getElem?_eq_none (by rw [bytesOf_length]; exact hi), List.getElem?_eq_none (by rw [bytesOf_length]; exact hi)]
end Go.Proofs.Ytbhklhpeppaadaa
