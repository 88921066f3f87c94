/- GossipLeft: the walk. -/
import Derived.Test.YtoamjdjmfhdaeaaGosH
import Derived.Great.BuildSlice
namespace Go.Proofs.Ytoamjdjmfhdaeaa
open Go.RowKit
set_option linter.unusedVariables false
set_option linter.unusedSimpArgs false
open ShaW Sha

def GotN (W : World) (N : Nat) (F : Nat → UInt8) (b : Bool) (e : Ending) (w' : World) : Prop := ∃ A c, e = .returned (.tuple #[.slice A N c, .bool b]) ∧ Below W.heap.size W w' ∧ Reads w' w'.heap.size 1 A N (bytesOf N F)
def GotK (W : World) (K : List Ky) (e : Ending) (w' : World) : Prop := ∃ A c, e = .returned (.slice A K.length c) ∧ Below W.heap.size W w' ∧ KeysAt w' A K.length c K
/-- program and reference answer alike -/
def Alike (w : World) (A : Option Addr) (m c : Nat) (A' : Option Addr) (m' c' : Nat) (p : Int) (N : Nat) (F : Nat → UInt8) (b : Bool) (K : List Ky) : Prop :=
  K.length ≤ 977343669106 ∧
  (∀ W, Below w.heap.size w W → Calls Try.prog 13 #[.slice A m c, .int .i64 p, .slice A' m' c'] W (GotN W N F b)) ∧
  (∀ W, Below w.heap.size w W → Calls Try.prog 14 #[.slice A m c, .int .i64 p, .slice A' m' c'] W (GotN W N F b)) ∧
  (∀ W, Below w.heap.size w W → Calls Try.prog 16 #[.slice A m c, .int .i64 p, .slice A' m' c'] W (GotK W K)) ∧
  (∀ W, Below w.heap.size w W → Calls Try.prog 17 #[.slice A m c, .int .i64 p, .slice A' m' c'] W (GotK W K))
theorem got_of {W w' : World} {K : List Ky} {e : Ending} (h : ∃ v, e = .returned v ∧ KeysOut W w' v K) : GotK W K e w' := by
  obtain ⟨v, rfl, hb, ho⟩ := h
  obtain ⟨A, c, rfl, hk⟩ := ho.form
  exact ⟨A, c, rfl, hb, hk⟩
theorem alike_any (w : World) (A : Option Addr) (m c : Nat) (l : List EItem) (hE : EntsAt w A m c l) (hm : m ≤ 977343669106) (hl : ∀ x ∈ l, x.e.rn ≤ 140737488351232 ∧ x.e.peers.length ≤ 17592186043904)
    (A' : Option Addr) (m' c' : Nat) (ps : List Ky) (hK : KeysAt w A' m' c' ps) (hm' : m' ≤ 977343669106) (p : Int) : ∃ N F b K, Alike w A m c A' m' c' p N F b K := by
  have hp : ∀ x ∈ l, x.e.peers.length ≤ 17592186043904 := fun x hx => by have := (hl x hx).2; omega
  have hr : ∀ x ∈ l, x.e.rn ≤ 140737488351232 := fun x hx => by have := (hl x hx).1; omega
  refine ⟨nextN (leftE p ps l).head?, nextF (leftE p ps l).head?, (leftE p ps l).head?.isSome, entKeys (leftE p ps l), ?_, fun W h => ?_, fun W h => ?_, fun W h => ?_, fun W h => ?_⟩
  · rw [entKeys_len]; have := leftE_len p ps l; have := hE.1; omega
  · exact gNext_any W A' m' c' ps (hK.below h) (by omega) A m c l (hE.below h) (by omega) hp hr p
  · exact rNext_any W A' m' c' ps (hK.below h) A m c l (hE.below h) (by omega) hp hr p
  · exact (gLeft_any W A' m' c' ps (hK.below h) (by omega) A m c l (hE.below h) (by omega) hp p).mono (fun _ _ h => got_of h)
  · exact (rLeft_any W A' m' c' ps (hK.below h) A m c l (hE.below h) (by omega) hp p).mono (fun _ _ h => got_of h)

set_option maxRecDepth 100000 in
set_option maxHeartbeats 4000000 in
theorem gossipLeft_any (w : World) (A : Option Addr) (m c : Nat) (l : List EItem) (hE : EntsAt w A m c l) (hm : m ≤ 977343669106) (hl : ∀ x ∈ l, x.e.rn ≤ 140737488351232 ∧ x.e.peers.length ≤ 17592186043904)
    (A' : Option Addr) (m' c' : Nat) (ps : List Ky) (hK : KeysAt w A' m' c' ps) (hm' : m' ≤ 9223372036854775807) (ao : Option Addr) (n cap : Nat) (f : Nat → Int) (hI : IntsAt w w.heap.size ao n cap f) (peer : Int) :
    Calls Try.prog 4 #[.slice A m c, .slice A' m' c', .slice ao n cap, .int .i64 peer] w fun e w' => e = .returned (.bool true) ∧ Below w.heap.size w w' := by
  have hn63 : n ≤ 9223372036854775807 := Nat.le_trans hI.1 hI.2.1
  obtain ⟨b, hb⟩ : ∃ b, decide (160 < (n : Int)) = b := ⟨_, rfl⟩
  have HE := Lib.hid hE
  have HI := Lib.hid hI
  have HP : Hid (m' ≤ 20 → ∀ p, ∃ N F b K, Alike w A m c A' m' c' p N F b K) := Lib.hid (fun h20 => alike_any w A m c l hE hm hl A' m' c' ps hK (by omega))
  have HL : Hid (∀ (g : Nat) (t : TypeId), g = w.heap.size → Calls Try.prog 6 #[.slice (some ⟨g, 0, none⟩) 1 1] (w.alloc (.cells #[.slice ao n cap] t)) fun e w' => e = .returned (.bool b) ∧ w.alloc (.cells #[.slice ao n cap] t) = w') :=
    Lib.hid (fun g t hg => long_any w ao n cap g t hg hn63 b hb)
  clear hE hK hI hb hl
  go_enter Try.func4, Try.ntmps4
  cases b with
  | true =>
    go_wp2_with fail
    refine (HL.out _ _ rfl).mono ?_
    rintro e w1 ⟨rfl, rfl⟩
    generalize hw1 : World.alloc _ _ = w1
    have HB1 : Hid (Below w.heap.size w w1) := Lib.hid (by rw [← hw1]; exact (Below.refl _ _).alloc (Nat.le_refl _) _)
    clear hw1 HL
    go_wp2_with fail
    refine (known_any w1).mono ?_
    rintro e wz ⟨rfl, hbz⟩
    have HBZ := Lib.hid (HB1.out.trans (hbz.mono HB1.out.size))
    clear hbz
    go_wp2_with fail
    go_ret
    exact ⟨rfl, HBZ.out⟩
  | false =>
    go_wp2_with fail
    refine (HL.out _ _ rfl).mono ?_
    rintro e w1 ⟨rfl, rfl⟩
    generalize hw1 : World.alloc _ _ = w1
    have HB1 : Hid (Below w.heap.size w w1) := Lib.hid (by rw [← hw1]; exact (Below.refl _ _).alloc (Nat.le_refl _) _)
    clear hw1 HL
    go_wp2_with fail
    refine (raw_any w1 A m c l (HE.out.below HB1.out)).mono ?_
    rintro e w2 ⟨b2, rfl, hb2⟩
    have HB2 := Lib.hid (HB1.out.trans (hb2.mono HB1.out.size))
    clear hb2
    cases b2 with
    | false =>
      go_wp2_with fail
      refine (known_any w2).mono ?_
      rintro e wz ⟨rfl, hbz⟩
      have HBZ := Lib.hid (HB2.out.trans (hbz.mono HB2.out.size))
      clear hbz
      go_wp2_with fail
      go_ret
      exact ⟨rfl, HBZ.out⟩
    | true =>
      rcases Nat.lt_or_ge 20 m' with hlt | hm20
      · have t1 : (20 : Int) < (m' : Int) := by omega
        go_wp2_with fail
        refine (known_any w2).mono ?_
        rintro e wz ⟨rfl, hbz⟩
        have HBZ := Lib.hid (HB2.out.trans (hbz.mono HB2.out.size))
        clear hbz
        go_wp2_with fail
        go_ret
        exact ⟨rfl, HBZ.out⟩
      · have t1 : ¬ (20 : Int) < (m' : Int) := by omega
        go_wp2_with fail
        refine (scene_any w2 ao n cap f ((HI.out.below HB2.out).more HB2.out.size)).mono ?_
        rintro e w3 ⟨B, q, d, l3, B', q', d', ps3, rfl, hb3, he3, hk3, hq, hq', hg3, hd3⟩
        have HB3 := Lib.hid (HB2.out.trans (hb3.mono HB2.out.size))
        have HQ : Hid (∀ p, ∃ N F b K, Alike w3 B q d B' q' d' p N F b K) := Lib.hid (alike_any w3 B q d l3 he3 (by omega) (fun x hx => by have := (hg3 x hx).rn; have := (hg3 x hx).pn; omega) B' q' d' ps3 hk3 (by omega))
        clear hb3 he3 hk3 hg3 hd3 HE HI
        go_upto_region 5 with (fail)
        generalize hw4 : World.alloc w3 _ = w4
        have HLI : Hid (∀ j, j < 6 → ∃ p : Int, w4.cell? ⟨w3.heap.size, j, none⟩ = some (.int .i64 p)) := Lib.hid (fun j hj => by
          rw [← hw4]
          match j, hj with
          | 0, _ => exact ⟨peer, by rw [World.cell?_alloc_at _ _ _ _ rfl]; rfl⟩
          | 1, _ => exact ⟨1, by rw [World.cell?_alloc_at _ _ _ _ rfl]; rfl⟩
          | 2, _ => exact ⟨2, by rw [World.cell?_alloc_at _ _ _ _ rfl]; rfl⟩
          | 3, _ => exact ⟨3, by rw [World.cell?_alloc_at _ _ _ _ rfl]; rfl⟩
          | 4, _ => exact ⟨4, by rw [World.cell?_alloc_at _ _ _ _ rfl]; rfl⟩
          | 5, _ => exact ⟨5, by rw [World.cell?_alloc_at _ _ _ _ rfl]; rfl⟩)
        have HB4 : Hid (Below w3.heap.size w3 w4) := Lib.hid (by rw [← hw4]; exact (Below.refl _ _).alloc (Nat.le_refl _) _)
        clear hw4
        obtain ⟨D, hD⟩ : ∃ D, w3.heap.size = D := ⟨_, rfl⟩
        rw [hD] at HLI ⊢
        have HDD := Lib.hid hD
        clear hD
        go_wp2_with fail
        go_loopw [43] (fun i wr => ∃ j : Nat, j ≤ 6 ∧ i = .int .i64 (j : Int) ∧ Below w4.heap.size w4 wr) (fun i _ => 6 - (intOf i).toNat)
        case atStart => exact ⟨0, by omega, rfl, Below.refl _ _⟩
        case round =>
          obtain ⟨j, hj, rfl, hbr⟩ := hrel
          have HBR : Hid (Below w3.heap.size w3 wr) := Lib.hid (HB4.out.trans (hbr.mono HB4.out.size))
          have HBW : Hid (Below w.heap.size w wr) := Lib.hid (HB3.out.trans (HBR.out.mono HB3.out.size))
          have HBF := Lib.hid hbr
          rcases Nat.lt_or_ge j 6 with hlt | hge
          · have hlt' : (j : Int) < 6 := by omega
            have hj0 : (0 : Int) ≤ j := by omega
            obtain ⟨p, hp⟩ := HLI.out j hlt
            have hcr : wr.cell? ⟨D, j, none⟩ = some (.int .i64 p) := (hbr.cell (p := ⟨D, j, none⟩) (World.block_lt_of_cell? w4 _ hp)).trans hp
            obtain ⟨N1, F1, b1, K1, hK1, g1, r1, l1, s1⟩ := HP.out hm20 p
            obtain ⟨N2, F2, b2, K2, hK2, g2, r2, l2, s2⟩ := HQ.out p
            have G1 := Lib.hid g1
            have R1 := Lib.hid r1
            have L1 := Lib.hid l1
            have S1 := Lib.hid s1
            have G2 := Lib.hid g2
            have R2 := Lib.hid r2
            have L2 := Lib.hid l2
            have S2 := Lib.hid s2
            have e1 : (b1 != b1) = false := by cases b1 <;> rfl
            have e2 : (b2 != b2) = false := by cases b2 <;> rfl
            clear hbr hp g1 r1 l1 s1 g2 r2 l2 s2 HP HQ HLI
            go_wp2_with fail
            refine (G1.out wr HBW.out).mono ?_
            rintro e w10 ⟨Aa, da, rfl, hbn, ra⟩
            have HBRx : Hid (Below w3.heap.size w3 w10) := Lib.hid (HBR.out.trans (hbn.mono HBR.out.size))
            have HBWx : Hid (Below w.heap.size w w10) := Lib.hid (HBW.out.trans (hbn.mono HBW.out.size))
            have HBFx : Hid (Below w4.heap.size w4 w10) := Lib.hid (HBF.out.trans (hbn.mono HBF.out.size))
            clear HBR HBW HBF
            have HBR := HBRx
            have HBW := HBWx
            have HBF := HBFx
            clear HBRx HBWx HBFx hbn
            have RA := Lib.hid ra
            clear ra
            go_wp2_with fail
            refine (R1.out w10 HBW.out).mono ?_
            rintro e w11 ⟨Ab, db, rfl, hbn, rb⟩
            have RAx := Lib.hid ((RA.out.below hbn).more hbn.size)
            clear RA
            have RA := RAx
            clear RAx
            have HBRx : Hid (Below w3.heap.size w3 w11) := Lib.hid (HBR.out.trans (hbn.mono HBR.out.size))
            have HBWx : Hid (Below w.heap.size w w11) := Lib.hid (HBW.out.trans (hbn.mono HBW.out.size))
            have HBFx : Hid (Below w4.heap.size w4 w11) := Lib.hid (HBF.out.trans (hbn.mono HBF.out.size))
            clear HBR HBW HBF
            have HBR := HBRx
            have HBW := HBWx
            have HBF := HBFx
            clear HBRx HBWx HBFx hbn
            have RB := Lib.hid rb
            clear rb
            go_wp2_with fail
            refine (G2.out w11 HBR.out).mono ?_
            rintro e w12 ⟨Ac, dc, rfl, hbn, rc⟩
            have RAx := Lib.hid ((RA.out.below hbn).more hbn.size)
            clear RA
            have RA := RAx
            clear RAx
            have RBx := Lib.hid ((RB.out.below hbn).more hbn.size)
            clear RB
            have RB := RBx
            clear RBx
            have HBRx : Hid (Below w3.heap.size w3 w12) := Lib.hid (HBR.out.trans (hbn.mono HBR.out.size))
            have HBWx : Hid (Below w.heap.size w w12) := Lib.hid (HBW.out.trans (hbn.mono HBW.out.size))
            have HBFx : Hid (Below w4.heap.size w4 w12) := Lib.hid (HBF.out.trans (hbn.mono HBF.out.size))
            clear HBR HBW HBF
            have HBR := HBRx
            have HBW := HBWx
            have HBF := HBFx
            clear HBRx HBWx HBFx hbn
            have RC := Lib.hid rc
            clear rc
            go_wp2_with fail
            refine (R2.out w12 HBR.out).mono ?_
            rintro e w13 ⟨Ad, dd, rfl, hbn, rd⟩
            have RAx := Lib.hid ((RA.out.below hbn).more hbn.size)
            clear RA
            have RA := RAx
            clear RAx
            have RBx := Lib.hid ((RB.out.below hbn).more hbn.size)
            clear RB
            have RB := RBx
            clear RBx
            have RCx := Lib.hid ((RC.out.below hbn).more hbn.size)
            clear RC
            have RC := RCx
            clear RCx
            have HBRx : Hid (Below w3.heap.size w3 w13) := Lib.hid (HBR.out.trans (hbn.mono HBR.out.size))
            have HBWx : Hid (Below w.heap.size w w13) := Lib.hid (HBW.out.trans (hbn.mono HBW.out.size))
            have HBFx : Hid (Below w4.heap.size w4 w13) := Lib.hid (HBF.out.trans (hbn.mono HBF.out.size))
            clear HBR HBW HBF
            have HBR := HBRx
            have HBW := HBWx
            have HBF := HBFx
            clear HBRx HBWx HBFx hbn
            have RD := Lib.hid rd
            clear rd
            go_wp2_with fail
            refine (same_reads w13 _ _ _ _ _ _ _ _ RA.out RB.out).mono ?_
            rintro e w14 ⟨rfl, rfl⟩
            clear RA
            clear RB
            go_wp2_with fail
            refine (same_reads w13 _ _ _ _ _ _ _ _ RC.out RD.out).mono ?_
            rintro e w15 ⟨rfl, rfl⟩
            clear RC
            clear RD
            go_wp2_with fail
            refine (L1.out w13 HBW.out).mono ?_
            rintro e w16 ⟨Ae, de, rfl, hbn, ke⟩
            have HBRx : Hid (Below w3.heap.size w3 w16) := Lib.hid (HBR.out.trans (hbn.mono HBR.out.size))
            have HBWx : Hid (Below w.heap.size w w16) := Lib.hid (HBW.out.trans (hbn.mono HBW.out.size))
            have HBFx : Hid (Below w4.heap.size w4 w16) := Lib.hid (HBF.out.trans (hbn.mono HBF.out.size))
            clear HBR HBW HBF
            have HBR := HBRx
            have HBW := HBWx
            have HBF := HBFx
            clear HBRx HBWx HBFx hbn
            have KE := Lib.hid ke
            clear ke
            go_wp2_with fail
            refine (S1.out w16 HBW.out).mono ?_
            rintro e w17 ⟨Af, df, rfl, hbn, kf⟩
            have KEx := Lib.hid (KE.out.below hbn)
            clear KE
            have KE := KEx
            clear KEx
            have HBRx : Hid (Below w3.heap.size w3 w17) := Lib.hid (HBR.out.trans (hbn.mono HBR.out.size))
            have HBWx : Hid (Below w.heap.size w w17) := Lib.hid (HBW.out.trans (hbn.mono HBW.out.size))
            have HBFx : Hid (Below w4.heap.size w4 w17) := Lib.hid (HBF.out.trans (hbn.mono HBF.out.size))
            clear HBR HBW HBF
            have HBR := HBRx
            have HBW := HBWx
            have HBF := HBFx
            clear HBRx HBWx HBFx hbn
            have KF := Lib.hid kf
            clear kf
            go_wp2_with fail
            refine (sameKeys_any w17 _ _ _ _ _ _ KE.out KF.out (by omega)).mono ?_
            rintro e w18 ⟨rfl, hbn⟩
            have KEx := Lib.hid (KE.out.below hbn)
            clear KE
            have KE := KEx
            clear KEx
            have KFx := Lib.hid (KF.out.below hbn)
            clear KF
            have KF := KFx
            clear KFx
            have HBRx : Hid (Below w3.heap.size w3 w18) := Lib.hid (HBR.out.trans (hbn.mono HBR.out.size))
            have HBWx : Hid (Below w.heap.size w w18) := Lib.hid (HBW.out.trans (hbn.mono HBW.out.size))
            have HBFx : Hid (Below w4.heap.size w4 w18) := Lib.hid (HBF.out.trans (hbn.mono HBF.out.size))
            clear HBR HBW HBF
            have HBR := HBRx
            have HBW := HBWx
            have HBF := HBFx
            clear HBRx HBWx HBFx hbn
            clear KE
            clear KF
            go_wp2_with fail
            refine (L2.out w18 HBR.out).mono ?_
            rintro e w19 ⟨Ag, dg, rfl, hbn, kg⟩
            have HBRx : Hid (Below w3.heap.size w3 w19) := Lib.hid (HBR.out.trans (hbn.mono HBR.out.size))
            have HBWx : Hid (Below w.heap.size w w19) := Lib.hid (HBW.out.trans (hbn.mono HBW.out.size))
            have HBFx : Hid (Below w4.heap.size w4 w19) := Lib.hid (HBF.out.trans (hbn.mono HBF.out.size))
            clear HBR HBW HBF
            have HBR := HBRx
            have HBW := HBWx
            have HBF := HBFx
            clear HBRx HBWx HBFx hbn
            have KG := Lib.hid kg
            clear kg
            go_wp2_with fail
            refine (S2.out w19 HBR.out).mono ?_
            rintro e w20 ⟨Ah, dh, rfl, hbn, kh⟩
            have KGx := Lib.hid (KG.out.below hbn)
            clear KG
            have KG := KGx
            clear KGx
            have HBRx : Hid (Below w3.heap.size w3 w20) := Lib.hid (HBR.out.trans (hbn.mono HBR.out.size))
            have HBWx : Hid (Below w.heap.size w w20) := Lib.hid (HBW.out.trans (hbn.mono HBW.out.size))
            have HBFx : Hid (Below w4.heap.size w4 w20) := Lib.hid (HBF.out.trans (hbn.mono HBF.out.size))
            clear HBR HBW HBF
            have HBR := HBRx
            have HBW := HBWx
            have HBF := HBFx
            clear HBRx HBWx HBFx hbn
            have KH := Lib.hid kh
            clear kh
            go_wp2_with fail
            refine (sameKeys_any w20 _ _ _ _ _ _ KG.out KH.out (by omega)).mono ?_
            rintro e w21 ⟨rfl, hbn⟩
            have KGx := Lib.hid (KG.out.below hbn)
            clear KG
            have KG := KGx
            clear KGx
            have KHx := Lib.hid (KH.out.below hbn)
            clear KH
            have KH := KHx
            clear KHx
            have HBRx : Hid (Below w3.heap.size w3 w21) := Lib.hid (HBR.out.trans (hbn.mono HBR.out.size))
            have HBWx : Hid (Below w.heap.size w w21) := Lib.hid (HBW.out.trans (hbn.mono HBW.out.size))
            have HBFx : Hid (Below w4.heap.size w4 w21) := Lib.hid (HBF.out.trans (hbn.mono HBF.out.size))
            clear HBR HBW HBF
            have HBR := HBRx
            have HBW := HBWx
            have HBF := HBFx
            clear HBRx HBWx HBFx hbn
            clear KG
            clear KH
            go_wp2_with fail
            go_roundw
            case rel => exact ⟨j + 1, by omega, by go_num, HBF.out⟩
            case measure => simp [intOf]; omega
          · obtain rfl : j = 6 := by omega
            clear hbr HP HQ HLI
            go_wp2_with fail
            refine (known_any wr).mono ?_
            rintro e wz ⟨rfl, hbz⟩
            have HBZ := Lib.hid (HBW.out.trans (hbz.mono HBW.out.size))
            clear hbz
            go_wp2_with fail
            go_ret
            exact ⟨rfl, HBZ.out⟩
end Go.Proofs.Ytoamjdjmfhdaeaa
