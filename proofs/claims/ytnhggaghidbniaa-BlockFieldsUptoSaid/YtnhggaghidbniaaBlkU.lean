/- SameBytes of the reference. -/
import Derived.Test.YtnhggaghidbniaaWirL
import Derived.Laws.IdiomStrings
namespace Go.Proofs.Ytnhggaghidbniaa
open Go.RowKit
set_option linter.unusedVariables false
set_option linter.unusedSimpArgs false
open Wir

theorem conv_none (w : World) (c : Nat) : (convert 33 9 (.slice none 0 c)).run Try.prog w = .ok (.string ByteArray.empty) w := by kernel_rfl
theorem conv_see {w : World} {v : Value} {b : List UInt8} (h : SeeB w v b) : (convert 33 9 v).run Try.prog w = .ok (.string ⟨b.toArray⟩) w := by
  obtain ⟨A, c, rfl, _, _, hr⟩ := h
  rcases A with _ | a
  · have hb : b = [] := by
      rcases Nat.eq_zero_or_pos b.length with h | h
      · exact List.length_eq_zero_iff.1 h
      · obtain ⟨ad, h1, _⟩ := hr.2 h
        cases h1
    subst hb
    exact conv_none w c
  · exact run_convert_bytes_back (P := Try.prog) w 33 9 5 a c b Try.underlying33 Try.underlying5 Try.underlying9 (fun j hj => by
      obtain ⟨ad, h1, h2⟩ := SeeB.at_ hr (List.getElem?_eq_getElem hj)
      injection h1 with h1
      subst h1
      rw [h2])
theorem toList_mkB (l : List UInt8) : (⟨l.toArray⟩ : ByteArray).toList = l := by
  rw [ByteArray.toList_eq]
theorem same_bytes {w : World} {v1 v2 : Value} {a b : List UInt8} (h1 : SeeB w v1 a) (h2 : SeeB w v2 b) :
    Calls Try.prog 13 #[v1, v2] w fun e w' => e = .returned (.bool (decide (a = b))) ∧ w = w' := by
  have h1 := conv_see h1
  have h2 := conv_see h2
  obtain ⟨R, hR⟩ : ∃ R, decide (a = b) = R := ⟨_, rfl⟩
  have e : ((⟨a.toArray⟩ : ByteArray).toList == (⟨b.toArray⟩ : ByteArray).toList) = R := by
    rw [toList_mkB, toList_mkB, ← hR, Bool.eq_iff_iff, beq_iff_eq, decide_eq_true_eq]
  rw [hR]
  generalize (⟨a.toArray⟩ : ByteArray) = S1 at h1 e
  generalize (⟨b.toArray⟩ : ByteArray) = S2 at h2 e
  clear hR
  go_enter Try.func13, Try.ntmps13
  go_wp2_with fail
  go_ret
  exact ⟨by first | rfl | (rw [e]) | (rw [e]; rfl) | (simp [e]), rfl⟩
end Go.Proofs.Ytnhggaghidbniaa
