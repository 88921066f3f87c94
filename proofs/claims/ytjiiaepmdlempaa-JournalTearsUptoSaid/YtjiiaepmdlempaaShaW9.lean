/- SameBytes on four bytes. -/
import Derived.Test.YtjiiaepmdlempaaShaW8
import Derived.Laws.BytesString
namespace Go.Proofs.Ytjiiaepmdlempaa
open Go.RowKit
set_option linter.unusedVariables false
open ShaW Sha

theorem conv_bytes (w : World) (b o c n : Nat) (f : Nat → UInt8) (hc : ∀ j, j < n → w.cell? ⟨b, o + j, none⟩ = some (.int .u8 ((f j).toNat : Int))) :
    (convert 22 9 (.slice (some ⟨b, o, none⟩) n c)).run Try.prog w = .ok (.string ⟨((List.range n).map f).toArray⟩) w := by
  have h := run_convert_bytes_back (P := Try.prog) w 22 9 5 ⟨b, o, none⟩ c ((List.range n).map f) Try.underlying22 Try.underlying5 Try.underlying9 (fun j hj => by
    rw [add_flat]
    simp only [List.length_map, List.length_range] at hj
    rw [hc j hj]
    simp)
  simpa using h

theorem same_any (w : World) (b o c b' o' c' n : Nat) (f g : Nat → UInt8) (hc : ∀ j, j < n → w.cell? ⟨b, o + j, none⟩ = some (.int .u8 ((f j).toNat : Int))) (hc' : ∀ j, j < n → w.cell? ⟨b', o' + j, none⟩ = some (.int .u8 ((g j).toNat : Int))) (hfg : ∀ j, j < n → f j = g j) :
    Calls Try.prog 12 #[.slice (some ⟨b, o, none⟩) n c, .slice (some ⟨b', o', none⟩) n c'] w fun e w' => e = .returned (.bool true) ∧ w = w' := by
  have h1 := conv_bytes w b o c n f hc
  have h2 := conv_bytes w b' o' c' n g hc'
  rw [show (List.range n).map g = (List.range n).map f from List.map_congr_left (fun j hj => (hfg j (List.mem_range.mp hj)).symm)] at h2
  generalize (ByteArray.mk ((List.range n).map f).toArray) = S at h1 h2
  clear hc hc' hfg
  go_enter Try.func12, Try.ntmps12
  go_wp2_with fail
  go_ret
  exact ⟨by first | rfl | simp, rfl⟩
end Go.Proofs.Ytjiiaepmdlempaa
