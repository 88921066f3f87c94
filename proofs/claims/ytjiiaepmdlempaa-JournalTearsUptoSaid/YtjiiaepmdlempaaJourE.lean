/- Repair, Append, AppendLog, SameBytes and SameLists on equal bytes. -/
import Derived.Test.YtjiiaepmdlempaaJourD
namespace Go.Proofs.Ytjiiaepmdlempaa
open Go.RowKit
set_option linter.unusedVariables false
open ShaW Sha

theorem readFrom_zero (f : Nat → UInt8) : readFrom 0 0 f = ([], 0) := readFrom_none (by unfold recAt; rw [if_pos (by omega)])
theorem readPost_zero {w : World} {f : Nat → UInt8} : ReadPost w w 0 f (.returned (.tuple #[.slice none 0 0, .int .i64 0])) := by
  unfold ReadPost
  rw [readFrom_zero]
  exact ⟨_, rfl, ListB.nil _ _ _ _, Below.refl _ _⟩
theorem readPost_zero' {w w' : World} {f : Nat → UInt8} (hb : Below w.heap.size w w') : ReadPost w w' 0 f (.returned (.tuple #[.slice none 0 0, .int .i64 0])) := by
  unfold ReadPost
  rw [readFrom_zero]
  exact ⟨_, rfl, ListB.nil _ _ _ _, hb⟩

set_option maxRecDepth 100000 in
theorem read_zero (w : World) (A : Option Addr) (c : Nat) (f : Nat → UInt8) : Calls Try.prog 14 #[.slice A 0 c] w fun e w' => ReadPost w w' 0 f e := by
  rcases A with _ | a
  all_goals
    go_enter Try.func14, Try.ntmps14
    go_wp2_with fail
    go_loopw [2, 3] (fun v i wr => v = .slice none 0 0 ∧ i = .int .i64 0 ∧ w = wr) (fun _ i _ => 0)
    case atStart => exact ⟨rfl, rfl, rfl⟩
    case round =>
      obtain ⟨rfl, rfl, rfl⟩ := hrel
      go_wp2_with fail
      all_goals
        refine (first_short _ _ _ _ (by omega)).mono ?_
        rintro e w1 ⟨rfl, rfl⟩
        go_wp2_with fail
        go_ret2
        exact readPost_zero
theorem read_g (w : World) (A : Option Addr) (b o c n : Nat) (f : Nat → UInt8) (hA : 0 < n → A = some ⟨b, o, none⟩) (hn : n ≤ 1099511627776) (hnc : n ≤ c) (hcm : c ≤ maxLen) (hc : ∀ j, j < n → w.cell? ⟨b, o + j, none⟩ = some (.int .u8 ((f j).toNat : Int))) :
    Calls Try.prog 14 #[.slice A n c] w fun e w' => ReadPost w w' n f e := by
  rcases Nat.eq_zero_or_pos n with rfl | h
  · exact read_zero w A c f
  · rw [hA h]; exact read_any w b o c n f hn hnc hcm hc
set_option maxRecDepth 100000 in
theorem readlog_zero (w : World) (A : Option Addr) (c : Nat) (f : Nat → UInt8) : Calls Try.prog 15 #[.slice A 0 c] w fun e w' => ReadPost w w' 0 f e := by
  have hno : recAt 0 f = none := by unfold recAt; rw [if_pos (by omega)]
  have HNO := Lib.hid hno
  clear hno
  rcases A with _ | a
  all_goals
    go_enter Try.func15, Try.ntmps15
    go_wp2_with fail
    go_loopw [4, 5] (fun v i wr => v = .slice none 0 0 ∧ i = .int .i64 0 ∧ w = wr) (fun _ i _ => 0)
    case atStart => exact ⟨rfl, rfl, rfl⟩
    case round =>
      obtain ⟨rfl, rfl, rfl⟩ := hrel
      go_wp2_with fail
      all_goals
        refine (record_short _ _ _ _ 0 0 f (by omega)).mono ?_
        rintro e w1 ⟨⟨v1, ok1, rfl, hrv⟩, hb1⟩
        have hok : ok1 = false := by
          unfold RecV at hrv
          rw [HNO.out] at hrv
          exact hrv
        subst hok
        have HB1 := Lib.hid hb1
        clear hb1 hrv
        go_wp2_with fail
        go_ret2
        exact readPost_zero' HB1.out
theorem readlog_g (w : World) (A : Option Addr) (b o c n : Nat) (f : Nat → UInt8) (hA : 0 < n → A = some ⟨b, o, none⟩) (hn : n ≤ 1099511627776) (hnc : n ≤ c) (hcm : c ≤ maxLen) (hc : ∀ j, j < n → w.cell? ⟨b, o + j, none⟩ = some (.int .u8 ((f j).toNat : Int))) :
    Calls Try.prog 15 #[.slice A n c] w fun e w' => ReadPost w w' n f e := by
  rcases Nat.eq_zero_or_pos n with rfl | h
  · exact readlog_zero w A c f
  · rw [hA h]; exact readlog_any w b o c n f hn hnc hcm hc

set_option maxRecDepth 100000 in
theorem repair_g (w : World) (A : Option Addr) (b o c n : Nat) (f : Nat → UInt8) (hA : 0 < n → A = some ⟨b, o, none⟩) (hn : n ≤ 1099511627776) (hnc : n ≤ c) (hcm : c ≤ maxLen) (hc : ∀ j, j < n → w.cell? ⟨b, o + j, none⟩ = some (.int .u8 ((f j).toNat : Int))) :
    Calls Try.prog 17 #[.slice A n c] w fun e w' => ∃ A' c', e = .returned (.slice A' (readFrom n 0 f).2 c') ∧ Below w.heap.size w w' ∧ w'.ownsRow w.heap.size 5 1 (.slice A' (readFrom n 0 f).2 c') (readFrom n 0 f).2 (bytesOf (readFrom n 0 f).2 f) := by
  have hcm2 : c ≤ 9223372036854775807 := hcm
  have hu := (readFrom_bound n f n 0 (by omega) (by omega)).2.1
  have hread := read_g w A b o c n f hA hn hnc hcm hc
  obtain ⟨u, hue⟩ : ∃ u, (readFrom n 0 f).2 = u := ⟨_, rfl⟩
  rw [hue] at hu ⊢
  have HUE := Lib.hid hue
  have HREAD := Lib.hid hread
  have hrd : Reads w w.heap.size 1 A u (bytesOf u f) := Reads.flat (g := b) (o := o) (fun h => ⟨hA (by omega), World.block_lt_of_cell? w _ (hc 0 (by omega))⟩) (fun j hj => hc j (by omega))
  have HRD := Lib.hid hrd
  clear hue hread hrd hc hcm
  have hAn : A = none → n = 0 := fun h => by
    rcases Nat.eq_zero_or_pos n with h0 | h0
    · exact h0
    · have := hA h0; rw [h] at this; cases this
  go_enter Try.func17, Try.ntmps17
  go_wp2_with fail
  refine HREAD.out.mono ?_
  rintro e w1 ⟨v1, rfl, hl1, hb1⟩
  rw [HUE.out]
  have hrd1 := (HRD.out.below hb1).more hb1.size
  have HB1 := Lib.hid hb1
  have HRD1 := Lib.hid hrd1
  clear hb1 hl1 hrd1
  have q1 : (u : Int) ≤ c := by omega
  go_wp2_with fail
  refine (clone_any _ _ _ _ _ HRD1.out (by omega)).mono ?_
  rintro e w2 ⟨A2, c2, rfl, hb2, ho2⟩
  go_wp2_with fail
  go_ret
  exact ⟨_, _, rfl, HB1.out.trans (hb2.mono HB1.out.size), owns_base ho2 HB1.out.size⟩
end Go.Proofs.Ytjiiaepmdlempaa
