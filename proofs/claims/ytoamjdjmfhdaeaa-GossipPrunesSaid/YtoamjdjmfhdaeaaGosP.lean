/- GossipPrunes: the walk. -/
import Derived.Test.YtoamjdjmfhdaeaaGosH
namespace Go.Proofs.Ytoamjdjmfhdaeaa
open Go.RowKit
set_option linter.unusedVariables false
set_option linter.unusedSimpArgs false
open ShaW Sha

set_option maxRecDepth 100000 in
set_option maxHeartbeats 4000000 in
theorem gossipPrunes_any (w : World) (A : Option Addr) (m c : Nat) (l : List EItem) (hE : EntsAt w A m c l) (hm : m ≤ 977343669106)
    (A' : Option Addr) (m' c' : Nat) (ps : List Ky) (hK : KeysAt w A' m' c' ps) (hm' : m' ≤ 9223372036854775807) (ao : Option Addr) (n cap : Nat) (f : Nat → Int) (hI : IntsAt w w.heap.size ao n cap f) :
    Calls Try.prog 3 #[.slice A m c, .slice A' m' c', .slice ao n cap] w fun e w' => e = .returned (.bool true) ∧ Below w.heap.size w w' := by
  have hn63 : n ≤ 9223372036854775807 := Nat.le_trans hI.1 hI.2.1
  obtain ⟨b, hb⟩ : ∃ b, decide (160 < (n : Int)) = b := ⟨_, rfl⟩
  have HE := Lib.hid hE
  have HK := Lib.hid hK
  have HI := Lib.hid hI
  have HL : Hid (∀ (g : Nat) (t : TypeId), g = w.heap.size → Calls Try.prog 6 #[.slice (some ⟨g, 0, none⟩) 1 1] (w.alloc (.cells #[.slice ao n cap] t)) fun e w' => e = .returned (.bool b) ∧ w.alloc (.cells #[.slice ao n cap] t) = w') :=
    Lib.hid (fun g t hg => long_any w ao n cap g t hg hn63 b hb)
  clear hE hK hI hb
  go_enter Try.func3, Try.ntmps3
  cases b with
  | true =>
    go_wp2_with fail
    refine (HL.out _ _ rfl).mono ?_
    rintro e w1 ⟨rfl, rfl⟩
    generalize hw1 : World.alloc _ _ = w1
    have HB1 : Hid (Below w.heap.size w w1) := Lib.hid (by rw [← hw1]; exact (Below.refl _ _).alloc (Nat.le_refl _) _)
    clear hw1 HL
    go_wp2_with fail
    refine (known_any w1).mono ?_
    rintro e w2 ⟨rfl, hb2⟩
    have HB2 := Lib.hid (HB1.out.trans (hb2.mono HB1.out.size))
    clear hb2
    go_wp2_with fail
    go_ret
    exact ⟨rfl, HB2.out⟩
  | false =>
    go_wp2_with fail
    refine (HL.out _ _ rfl).mono ?_
    rintro e w1 ⟨rfl, rfl⟩
    generalize hw1 : World.alloc _ _ = w1
    have HB1 : Hid (Below w.heap.size w w1) := Lib.hid (by rw [← hw1]; exact (Below.refl _ _).alloc (Nat.le_refl _) _)
    clear hw1 HL
    go_wp2_with fail
    refine (raw_any w1 A m c l (HE.out.below HB1.out)).mono ?_
    rintro e w2 ⟨b2, rfl, hb2⟩
    have HB2 := Lib.hid (HB1.out.trans (hb2.mono HB1.out.size))
    clear hb2
    cases b2 with
    | false =>
      go_wp2_with fail
      refine (known_any w2).mono ?_
      rintro e w3 ⟨rfl, hb3⟩
      have HB3 := Lib.hid (HB2.out.trans (hb3.mono HB2.out.size))
      clear hb3
      go_wp2_with fail
      go_ret
      exact ⟨rfl, HB3.out⟩
    | true =>
      rcases Nat.lt_or_ge 20 m' with hlt | hge
      · have t1 : (20 : Int) < (m' : Int) := by omega
        go_wp2_with fail
        refine (known_any w2).mono ?_
        rintro e w3 ⟨rfl, hb3⟩
        have HB3 := Lib.hid (HB2.out.trans (hb3.mono HB2.out.size))
        clear hb3
        go_wp2_with fail
        go_ret
        exact ⟨rfl, HB3.out⟩
      · have t1 : ¬ (20 : Int) < (m' : Int) := by omega
        go_wp2_with fail
        refine (scene_any w2 ao n cap f ((HI.out.below HB2.out).more HB2.out.size)).mono ?_
        rintro e w3 ⟨B, q, d, l3, B', q', d', ps3, rfl, hb3, he3, hk3, hq, hq', hg3, hd3⟩
        have HB3 := Lib.hid (HB2.out.trans (hb3.mono HB2.out.size))
        have HE3 := Lib.hid he3
        have HK3 := Lib.hid hk3
        clear hb3 he3 hk3 hg3 hd3
        go_wp2_with fail
        refine (gprune_any w3 A' m' c' ps (HK.out.below HB3.out) (by omega) A m c l (HE.out.below HB3.out) (by omega)).mono ?_
        rintro e w4 ⟨v4, rfl, hb4, ho4⟩
        obtain ⟨A4, d4, rfl, hk4⟩ := ho4.form
        have HB4 := Lib.hid (HB3.out.trans (hb4.mono HB3.out.size))
        have HE4 := Lib.hid (HE3.out.below hb4)
        have HKs := Lib.hid (HK3.out.below hb4)
        have HK4 := Lib.hid hk4
        clear hb4 ho4 hk4 HE3 HK3
        go_wp2_with fail
        refine (rprune_any w4 A' m' c' ps (HK.out.below HB4.out) (by omega) A m c l (HE.out.below HB4.out)).mono ?_
        rintro e w5 ⟨v5, rfl, hb5, ho5⟩
        obtain ⟨A5, d5, rfl, hk5⟩ := ho5.form
        have HB5 := Lib.hid (HB4.out.trans (hb5.mono HB4.out.size))
        have HE5 := Lib.hid (HE4.out.below hb5)
        have HKs5 := Lib.hid (HKs.out.below hb5)
        have HK5 := Lib.hid hk5
        have HK4' := Lib.hid (HK4.out.below hb5)
        clear hb5 ho5 hk5 HE4 HKs HK4
        have hpl : (pruneK ps l).length ≤ 20 := Nat.le_trans (List.length_filter_le _ _) (by have := HK.out.1; omega)
        go_wp2_with fail
        refine (sameKeys_any w5 _ _ _ _ _ _ HK4'.out HK5.out (by omega)).mono ?_
        rintro e w6 ⟨rfl, hb6⟩
        have HB6 := Lib.hid (HB5.out.trans (hb6.mono HB5.out.size))
        have HE6 := Lib.hid (HE5.out.below hb6)
        have HKs6 := Lib.hid (HKs5.out.below hb6)
        clear hb6 HE5 HKs5 HK4' HK5 hpl
        go_wp2_with fail
        refine (gprune_any w6 B' q' d' ps3 HKs6.out (by omega) B q d l3 HE6.out (by omega)).mono ?_
        rintro e w7 ⟨v7, rfl, hb7, ho7⟩
        obtain ⟨A7, d7, rfl, hk7⟩ := ho7.form
        have HB7 := Lib.hid (HB6.out.trans (hb7.mono HB6.out.size))
        have HE7 := Lib.hid (HE6.out.below hb7)
        have HKs7 := Lib.hid (HKs6.out.below hb7)
        have HK7 := Lib.hid hk7
        clear hb7 ho7 hk7
        go_wp2_with fail
        refine (rprune_any w7 B' q' d' ps3 HKs7.out (by omega) B q d l3 HE7.out).mono ?_
        rintro e w8 ⟨v8, rfl, hb8, ho8⟩
        obtain ⟨A8, d8, rfl, hk8⟩ := ho8.form
        have HB8 := Lib.hid (HB7.out.trans (hb8.mono HB7.out.size))
        have HK8 := Lib.hid hk8
        have HK7' := Lib.hid (HK7.out.below hb8)
        have hpl : (pruneK ps3 l3).length ≤ 6 := Nat.le_trans (List.length_filter_le _ _) (by have := HKs6.out.1; omega)
        clear hb8 ho8 hk8 HE6 HKs6 HK7
        go_wp2_with fail
        refine (sameKeys_any w8 _ _ _ _ _ _ HK7'.out HK8.out (by omega)).mono ?_
        rintro e w9 ⟨rfl, hb9⟩
        have HB9 := Lib.hid (HB8.out.trans (hb9.mono HB8.out.size))
        clear hb9 HK7' HK8
        go_wp2_with fail
        refine (known_any w9).mono ?_
        rintro e w10 ⟨rfl, hb10⟩
        have HB10 := Lib.hid (HB9.out.trans (hb10.mono HB9.out.size))
        clear hb10
        go_wp2_with fail
        go_ret
        exact ⟨rfl, HB10.out⟩
end Go.Proofs.Ytoamjdjmfhdaeaa
