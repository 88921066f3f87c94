/- LinkedSlots: the walk. -/
import Derived.Test.YtlkpdmblhejnhaaLnkSl
namespace Go.Proofs.Ytlkpdmblhejnhaa
open Go.RowKit
set_option linter.unusedVariables false
open Lnk

theorem own_lis {w w' : World} {B D : Nat} {rv : Value} {r : R} (hl : Lis w B D rv r) {base n : Nat} {v : Value} {xs : List Value} (h : w.ownsRow base 3 1 v n xs) (hg : w.grownBy w' v.ownBlock) : Lis w' B D rv r := by
  obtain ⟨c, h1, h2⟩ := hl
  refine ⟨c, h1.only (Only.of_grown hg) fun k hf e => ?_, h2⟩
  rcases hf with rfl | hf
  · exact own_blk_ne h h1.blk (by decide) e
  · exact owns_ne h1.row h (by decide) hf e
theorem own_num {w w' : World} {B D N m : Nat} (hl : NumAt w B D m N) {base n : Nat} {v : Value} {xs : List Value} (h : w.ownsRow base 3 1 v n xs) (hB : B ≤ w.heap.size) (hb : B ≤ base) (hg : w.grownBy w' v.ownBlock) : NumAt w' B D m N := by
  obtain ⟨A, c, f, h1, h2, h3⟩ := id hl
  exact hl.only (Only.of_grown hg) hB (fun k hk => by have := (h.lt k hk).1; omega) (fun e => own_blk_ne h h2 (by decide) e)
/-- slots, as Go's numbers -/
def natsV (S : List Nat) : List Value := S.map fun (s : Nat) => Value.int .i64 (s : Int)
theorem natsV_one (S : List Nat) : ∀ u ∈ natsV S, u.oneCell' = true := by
  intro u hu; unfold natsV at hu; obtain ⟨x, _, rfl⟩ := List.mem_map.1 hu; rfl
/-- what the loop of LinkedSlots keeps -/
structure Slo (w0 : World) (Dl Dn n N most : Nat) (rv sv : Value) (r : R) (S : List Nat) (w : World) : Prop where
  lis : Lis w w0.heap.size Dl rv r
  num : NumAt w w0.heap.size Dn n N
  own : w.ownsRow w0.heap.size 3 1 sv S.length (natsV S)
  inv : Keeps r S most
  bel : Below w0.heap.size w0 w
  few : Few r (N + 1)
  mst : most ≤ N + 1
def SloAt (w0 : World) (Dl Dn n : Nat) (sv : Value) (most : Value) (w : World) : Prop := ∃ (N m : Nat) (rv : Value) (r : R) (S : List Nat), most = .int .i64 (m : Int) ∧ N ≤ n + 1 ∧ Slo w0 Dl Dn n N m rv sv r S w

set_option maxRecDepth 100000 in
set_option maxHeartbeats 40000000 in
theorem linkedSlots_any (w : World) (A : Option Addr) (n c : Nat) (f : Nat → Int) (h : IntsAt w w.heap.size A n c f) :
    Calls Try.prog 4 #[.slice A n c] w fun e w' => e = .returned (.bool true) ∧ Below w.heap.size w w' := by
  have hnc : n ≤ 9223372036854775807 := Nat.le_trans h.1 h.2.1
  obtain ⟨i0, hi, hz0, hz1, hz2⟩ := info_parts int_info
  have HI := Lib.hid h
  clear h
  by_cases hbig : 160 < n
  · have hb : decide (160 < (n : Int)) = true := by simp; omega
    go_enter Try.func4, Try.ntmps4
    go_wp2_with fail
    refine (long_any w A n c _ _ rfl hnc true hb).mono ?_
    rintro e w1 ⟨rfl, rfl⟩
    go_wp2_with fail
    refine (known_any _).mono ?_
    rintro e w1 ⟨rfl, hb1⟩
    have HB := Lib.hid (((Below.refl w.heap.size w).alloc (Nat.le_refl _) _).trans (hb1.mono (by simp)))
    clear hb1
    go_wp2_with fail
    go_ret
    exact ⟨rfl, HB.out⟩
  · have hb : decide (160 < (n : Int)) = false := by simp; omega
    have hn : n ≤ 160 := by omega
    go_enter Try.func4, Try.ntmps4
    go_wp2_with fail
    refine (long_any w A n c _ _ rfl hnc false hb).mono ?_
    rintro e w1 ⟨rfl, rfl⟩
    go_wp2_with fail
    generalize hwa : World.alloc w _ = wa
    have hb0 : Below w.heap.size w wa := by rw [← hwa]; exact (Below.refl _ _).alloc (Nat.le_refl _) _
    have hz0' : wa.heap.size = w.heap.size + 1 := by rw [← hwa]; simp
    clear hwa
    refine (lnewR_any wa w.heap.size (by omega)).mono ?_
    rintro e w1 ⟨rfl, hb1, hs1, hl1⟩
    have hI1 := HI.out.below (hb0.trans (hb1.mono (by omega)))
    have HB1 := Lib.hid (hb0.trans (hb1.mono (by omega)))
    have HL1 := Lib.hid hl1
    have HI1 := Lib.hid hI1
    have hz1' : w1.heap.size = w.heap.size + 1 + 1 := by omega
    rw [hz0']
    rw [hz0'] at HL1
    have HZ1 := Lib.hid hz1'
    clear hb0 hb1 hs1 hl1 hI1 hz0' hz1'
    go_wp2_with fail
    refine (from_any w1 w.heap.size n c A f HI1.out (by have := HZ1.out; omega)).mono ?_
    rintro e w2 ⟨rfl, hb2, hs2, hn2⟩
    have HB2 := Lib.hid (HB1.out.trans (hb2.mono (by have := HZ1.out; omega)))
    have HL2 := Lib.hid (HL1.out.below hb2)
    have hz2' : w2.heap.size = w.heap.size + 1 + 1 + 1 := by have := HZ1.out; omega
    rw [HZ1.out] at hn2 ⊢
    have HN2 := Lib.hid hn2
    have HZ2 := Lib.hid hz2'
    clear hb2 hs2 hn2 hz2' HB1 HL1 HI1 HZ1
    go_wp2_with fail
    refine (lpb_any w2 w.heap.size (w.heap.size + 1) _ emptyR 1000 HL2.out (by have := HZ2.out; omega) (by decide) (by decide)).mono ?_
    rintro e w3 ⟨rfl, ho3, rv3, hl3⟩
    have HN3 := Lib.hid (HN2.out.lis HL2.out (by have := HZ2.out; omega) ho3)
    have HB3 := Lib.hid (ho3.below_trans HB2.out (by have := HZ2.out; omega) HL2.out.ge)
    have HL3 : Hid (Lis w3 w.heap.size (w.heap.size + 1) rv3 ⟨[(0, 1000)], [], 1⟩) := hl3
    rw [show (slotR emptyR : Int) = 0 from rfl]
    clear ho3 hl3 HN2 HB2 HL2 HZ2
    go_wp2_with fail
    go_loopw [6, 7] (fun sv mv wr => SloAt w (w.heap.size + 1) (w.heap.size + 1 + 1) n sv mv wr) (fun _ _ wr => n - numN wr (w.heap.size + 1 + 1))
    case atStart =>
      refine ⟨0, 1, rv3, ⟨[(0, 1000)], [], 1⟩, [], rfl, by omega, HL3.out, HN3.out, World.ownsRow_nil _ _ _ _, ?_, HB3.out, ⟨by decide, by decide, by decide⟩, by omega⟩
      exact ⟨⟨0, rfl⟩, rfl, fun s hs => by simp at hs, List.nodup_nil, rfl, by decide⟩
    case round =>
      obtain ⟨N, m, rv, r, S, rfl, hN, hlis, hnum, hown, hinv, hbel, hfew, hmst⟩ := hrel
      have hq : numN wr (w.heap.size + 1 + 1) = N := hnum.numN
      obtain ⟨An, cn, fn, _, hbn, _⟩ := id hnum
      have x1 : wr.cell? ⟨w.heap.size + 1 + 1, 1, none⟩ = some (.int .i64 (N : Int)) := hbn.cell 1
      obtain ⟨aS, cS, rfl⟩ := owns_form hown
      have hsz := hbel.size
      have hSl : S.length ≤ N + 1 := by have := hinv.cnt; have := hfew.E; omega
      rcases Nat.lt_or_ge N n with hlt | hge
      · have hlt' : (N : Int) < n := by omega
        have HNUM := Lib.hid hnum
        have HLIS := Lib.hid hlis
        have HOWN := Lib.hid hown
        have HBEL := Lib.hid hbel
        have HFEW := Lib.hid hfew
        have HINV := Lib.hid hinv
        have HQ := Lib.hid hq
        clear hnum hlis hown hbel hfew hinv hbn hq HN3 HB3 HL3
        go_wp2_with fail
        refine (next_any wr w.heap.size (w.heap.size + 1 + 1) n N 4 HNUM.out (by omega) (by omega) (by omega)).mono ?_
        rintro e w4 ⟨y, hy, rfl, ho4, hz4, hn4⟩
        have HLIS4 := Lib.hid (HLIS.out.num HNUM.out ho4)
        have HOWN4 : Hid (w4.ownsRow w.heap.size 3 1 (.slice aS S.length cS) S.length (natsV S)) := by
          obtain ⟨A, cc, f, _, hb, _⟩ := HNUM.out
          exact owns_only HOWN.out ho4 (fun g hg e => own_blk_ne HOWN.out hb (by decide) (by rw [← e]; exact hg))
        have HBEL4 := Lib.hid (ho4.below_trans HBEL.out hsz (fun k hk => by omega))
        have HNUM4 := Lib.hid hn4
        have hsz4 : w.heap.size ≤ w4.heap.size := by omega
        clear ho4 hz4 hn4 HNUM HLIS HOWN HBEL x1
        have hyc : y = 0 ∨ y = 1 ∨ y = 2 ∨ y = 3 := by omega
        clear hy
        rcases hyc with rfl | rfl | rfl | rfl
        --SWITCH
        · go_wp2_with fail
          refine (next_any w4 w.heap.size (w.heap.size + 1 + 1) n (N + 1) 50 HNUM4.out (by omega) (by omega) (by omega)).mono ?_
          rintro e w5 ⟨z, hzz, rfl, ho5, hz5, hn5⟩
          have HLIS5 := Lib.hid (HLIS4.out.num HNUM4.out ho5)
          have HOWN5 : Hid (w5.ownsRow w.heap.size 3 1 (.slice aS S.length cS) S.length (natsV S)) := by
            obtain ⟨A, cc, f, _, hb, _⟩ := HNUM4.out
            exact owns_only HOWN4.out ho5 (fun g hg e => own_blk_ne HOWN4.out hb (by decide) (by rw [← e]; exact hg))
          have HBEL5 := Lib.hid (ho5.below_trans HBEL4.out hsz4 (fun k hk => by omega))
          have HNUM5 := Lib.hid hn5
          have hsz5 : w.heap.size ≤ w5.heap.size := by omega
          clear ho5 hz5 hn5 HNUM4 HLIS4 HOWN4 HBEL4 hzz
          go_wp2_with fail
          refine (lpf_any w5 w.heap.size (w.heap.size + 1) rv r (z : Int) HLIS5.out hsz5 (by have := HFEW.out.U; omega) (by have := HFEW.out.E; omega)).mono ?_
          rintro e w6 ⟨rfl, ho6, rv5, hl6⟩
          have HLIS6 := Lib.hid hl6
          have HNUM6 := Lib.hid (HNUM5.out.lis HLIS5.out hsz5 ho6)
          have HOWN6 := Lib.hid (HLIS5.out.row_ne HOWN5.out (by decide) (by decide) ho6)
          have HBEL6 := Lib.hid (ho6.below_trans HBEL5.out hsz5 HLIS5.out.ge)
          have hsz6 : w.heap.size ≤ w6.heap.size := Nat.le_trans hsz5 ho6.size
          have HKP : Hid (Keeps (pushFrontR r (z : Int)) (S ++ [slotR r]) (max m ((S ++ [slotR r]).length + 1))) := by
            obtain ⟨c5', h1, h2⟩ := HLIS5.out
            exact inv_front HINV.out h2 _
          clear ho6 hl6 HLIS5 HNUM5 HOWN5 HBEL5
          go_wp2_with (at_builtin; refine halted ?_)
          change wpList _ _ _ _ _ _
          refine app_at rfl (.tmp 40) (.tmp 45) _ rfl w.heap.size 3 i0 _ 1 8 Try.underlying22 hi hz0 hz1 hz2 rfl (by omega) _ _ _ rfl HOWN6.out [.int .i64 (slotR r : Int)] _ w6.heap.size rfl rfl rfl
            (by intro u hu; simp at hu; subst hu; rfl) (by omega) (by omega) hsz6 ?_
          intro a5 c5 w5 ho5 hg5 hl5
          have HLS5 := Lib.hid (own_lis HLIS6.out HOWN6.out hg5)
          have HNM5 := Lib.hid (own_num HNUM6.out HOWN6.out hsz6 (Nat.le_refl _) hg5)
          have HBL5 := Lib.hid (grownBy_below HBEL6.out HOWN6.out hg5 hsz6 (Nat.le_refl _))
          obtain ⟨S5, hS5⟩ : ∃ S5, S ++ [slotR r] = S5 := ⟨_, rfl⟩
          obtain ⟨r5, hr5⟩ : ∃ r5, pushFrontR r (z : Int) = r5 := ⟨_, rfl⟩
          have hlS : S5.length = S.length + 1 := by rw [← hS5]; simp
          have HOW5 : Hid (w5.ownsRow w.heap.size 3 1 (.slice a5 S5.length c5) S5.length (natsV S5)) := by
            rw [hlS, ← hS5, show natsV (S ++ [slotR r]) = natsV S ++ [.int .i64 (slotR r : Int)] from by unfold natsV; simp]
            exact ho5
          have HFW5 := Lib.hid (few_pf HFEW.out (z : Int))
          rw [hS5, hr5] at HKP
          rw [hr5] at HLS5 HFW5
          have HIN5 := HKP
          have hN5 : N + 1 + 1 ≤ n + 1 := by omega
          obtain ⟨N5, hN5e⟩ : ∃ N5, N5 = N + 1 + 1 := ⟨_, rfl⟩
          rw [← hN5e] at HFW5 HNM5 hN5
          have HN5E := Lib.hid hN5e
          have hlt5 : N < N5 := by omega
          have hm5 : m ≤ N5 := by omega
          rw [← hlS]
          have hsz5 : w.heap.size ≤ w5.heap.size := HBL5.out.size
          clear ho5 hg5 hl5 HLIS6 HNUM6 HOWN6 HBEL6 HKP hS5 hr5 HINV HFEW hlS hN5e
          obtain ⟨q1, q2, q3, q4⟩ : (placeR r5.E 0).isSome = true ∧ valueR r5.E 0 = 1000 ∧ r5.E.length = S5.length + 1 ∧ ∀ (i s : Nat), S5[i]? = some s → s ≠ 0 ∧ s < max m (S5.length + 1) := by
            obtain ⟨c5', h1, h2⟩ := HLS5.out
            exact inv_ask HIN5.out h2
          have hV := lval_any w5 w.heap.size (w.heap.size + 1) rv5 r5 0 HLS5.out
          rw [q1, q2] at hV
          have hL := llenR_any w5 w.heap.size (w.heap.size + 1) rv5 r5 HLS5.out
          rw [q3] at hL
          have HV := Lib.hid hV
          have HLn := Lib.hid hL
          have HQ4 := Lib.hid q4
          have hSl5 : S5.length ≤ N5 := by have := HFW5.out.E; omega
          obtain ⟨_, gs, _, hav, has, _, _, hcs⟩ := owns_cells HOW5.out
          have HCS : Hid (∀ (i s : Nat), S5[i]? = some s → w5.cell? ⟨gs, 0 + i, none⟩ = some (.int .i64 (s : Int))) := fun i s hs => hcs i _ (by unfold natsV; rw [List.getElem?_map, hs]; rfl)
          have HAS : Hid (0 < S5.length → a5 = some ⟨gs, 0, none⟩) := fun hp => by
            injection hav with e1 e2 e3
            rw [e1]; exact has hp
          have hfin : ∀ mx : Nat, max m (S5.length + 1) ≤ mx → mx ≤ N5 + 1 → SloAt w (w.heap.size + 1) (w.heap.size + 1 + 1) n (.slice a5 S5.length c5) (.int .i64 (mx : Int)) w5 ∧ n - numN w5 (w.heap.size + 1 + 1) < n - numN wr (w.heap.size + 1 + 1) := fun mx h1 h2 => by
            refine ⟨⟨N5, mx, rv5, r5, S5, rfl, hN5, HLS5.out, HNM5.out, HOW5.out, inv_more HIN5.out mx h1, HBL5.out, few_more HFW5.out (by omega), by omega⟩, ?_⟩
            rw [HNM5.out.numN, HQ.out]
            omega
          have HFIN := Lib.hid hfin
          clear q1 q2 q3 q4 hV hL hav has hcs hfin HBL5 HNM5 HLS5 HIN5 HFW5 HN5E
          have tl : (((S5.length : Int) + 1) != ((S5.length : Int) + 1)) = false := by simp
          rcases Nat.lt_or_ge m (S5.length + 1) with hmm | hmm
          · have hmm' : ¬ ((S5.length : Int) + 1 ≤ (m : Int)) := by omega
            have HFN := Lib.hid (HFIN.out (S5.length + 1) (by omega) (by omega))
            have HQ5 : Hid (∀ (i s : Nat), S5[i]? = some s → s ≠ 0 ∧ s < S5.length + 1) := fun i s hs => by obtain ⟨h1, h2⟩ := HQ4.out i s hs; exact ⟨h1, by omega⟩
            clear HQ4 HFIN
            go_wp2_with fail
            refine HV.out.mono ?_
            rintro e w6 ⟨rfl, rfl⟩
            go_wp2_with fail
            refine HLn.out.mono ?_
            rintro e w6 ⟨rfl, rfl⟩
            go_wp2_with fail
            go_loop [100] (fun i => ∃ k : Nat, k ≤ S5.length ∧ i = .int .i64 (k : Int)) (fun i => S5.length - (intOf i).toNat)
            case atStart => exact ⟨0, by omega, rfl⟩
            case round =>
              obtain ⟨k, hk, rfl⟩ := hrel
              rcases Nat.lt_or_ge k S5.length with hkl | hkl
              · obtain ⟨s, hs⟩ : ∃ s, S5[k]? = some s := ⟨S5[k]'hkl, List.getElem?_eq_getElem hkl⟩
                obtain ⟨s1, s2⟩ := HQ5.out k s hs
                have d := HCS.out k s hs
                rw [Nat.zero_add] at d
                obtain rfl := HAS.out (by omega)
                have hkl' : (k : Int) < S5.length := by omega
                have t1 : ¬ ((s : Int) < 0) := by omega
                have t2 : ¬ ((S5.length : Int) + 1 ≤ (s : Int)) := by omega
                have t3 : ((s : Int) == 0) = false := by simp; omega
                clear hs
                go_wp2_with fail
                go_round
                case rel => exact ⟨k + 1, by omega, by go_num⟩
                case measure => simp [intOf]; omega
              · have hkl' : ¬ ((k : Int) < S5.length) := by omega
                go_wp2_with fail
                go_roundw
                case rel => exact HFN.out.1
                case measure => exact HFN.out.2
          · have hmm' : (S5.length : Int) + 1 ≤ (m : Int) := by omega
            have HFN := Lib.hid (HFIN.out m (by omega) (by omega))
            have HQ5 : Hid (∀ (i s : Nat), S5[i]? = some s → s ≠ 0 ∧ s < m) := fun i s hs => by obtain ⟨h1, h2⟩ := HQ4.out i s hs; exact ⟨h1, by omega⟩
            clear HQ4 HFIN
            go_wp2_with fail
            refine HV.out.mono ?_
            rintro e w6 ⟨rfl, rfl⟩
            go_wp2_with fail
            refine HLn.out.mono ?_
            rintro e w6 ⟨rfl, rfl⟩
            go_wp2_with fail
            go_loop [100] (fun i => ∃ k : Nat, k ≤ S5.length ∧ i = .int .i64 (k : Int)) (fun i => S5.length - (intOf i).toNat)
            case atStart => exact ⟨0, by omega, rfl⟩
            case round =>
              obtain ⟨k, hk, rfl⟩ := hrel
              rcases Nat.lt_or_ge k S5.length with hkl | hkl
              · obtain ⟨s, hs⟩ : ∃ s, S5[k]? = some s := ⟨S5[k]'hkl, List.getElem?_eq_getElem hkl⟩
                obtain ⟨s1, s2⟩ := HQ5.out k s hs
                have d := HCS.out k s hs
                rw [Nat.zero_add] at d
                obtain rfl := HAS.out (by omega)
                have hkl' : (k : Int) < S5.length := by omega
                have t1 : ¬ ((s : Int) < 0) := by omega
                have t2 : ¬ ((m : Int) ≤ (s : Int)) := by omega
                have t3 : ((s : Int) == 0) = false := by simp; omega
                clear hs
                go_wp2_with fail
                go_round
                case rel => exact ⟨k + 1, by omega, by go_num⟩
                case measure => simp [intOf]; omega
              · have hkl' : ¬ ((k : Int) < S5.length) := by omega
                go_wp2_with fail
                go_roundw
                case rel => exact HFN.out.1
                case measure => exact HFN.out.2
        · go_wp2_with fail
          refine (next_any w4 w.heap.size (w.heap.size + 1 + 1) n (N + 1) 50 HNUM4.out (by omega) (by omega) (by omega)).mono ?_
          rintro e w5 ⟨z, hzz, rfl, ho5, hz5, hn5⟩
          have HLIS5 := Lib.hid (HLIS4.out.num HNUM4.out ho5)
          have HOWN5 : Hid (w5.ownsRow w.heap.size 3 1 (.slice aS S.length cS) S.length (natsV S)) := by
            obtain ⟨A, cc, f, _, hb, _⟩ := HNUM4.out
            exact owns_only HOWN4.out ho5 (fun g hg e => own_blk_ne HOWN4.out hb (by decide) (by rw [← e]; exact hg))
          have HBEL5 := Lib.hid (ho5.below_trans HBEL4.out hsz4 (fun k hk => by omega))
          have HNUM5 := Lib.hid hn5
          have hsz5 : w.heap.size ≤ w5.heap.size := by omega
          clear ho5 hz5 hn5 HNUM4 HLIS4 HOWN4 HBEL4 hzz
          go_wp2_with fail
          refine (lpf_any w5 w.heap.size (w.heap.size + 1) rv r (z : Int) HLIS5.out hsz5 (by have := HFEW.out.U; omega) (by have := HFEW.out.E; omega)).mono ?_
          rintro e w6 ⟨rfl, ho6, rv5, hl6⟩
          have HLIS6 := Lib.hid hl6
          have HNUM6 := Lib.hid (HNUM5.out.lis HLIS5.out hsz5 ho6)
          have HOWN6 := Lib.hid (HLIS5.out.row_ne HOWN5.out (by decide) (by decide) ho6)
          have HBEL6 := Lib.hid (ho6.below_trans HBEL5.out hsz5 HLIS5.out.ge)
          have hsz6 : w.heap.size ≤ w6.heap.size := Nat.le_trans hsz5 ho6.size
          have HKP : Hid (Keeps (pushFrontR r (z : Int)) (S ++ [slotR r]) (max m ((S ++ [slotR r]).length + 1))) := by
            obtain ⟨c5', h1, h2⟩ := HLIS5.out
            exact inv_front HINV.out h2 _
          clear ho6 hl6 HLIS5 HNUM5 HOWN5 HBEL5
          go_wp2_with (at_builtin; refine halted ?_)
          change wpList _ _ _ _ _ _
          refine app_at rfl (.tmp 40) (.tmp 45) _ rfl w.heap.size 3 i0 _ 1 8 Try.underlying22 hi hz0 hz1 hz2 rfl (by omega) _ _ _ rfl HOWN6.out [.int .i64 (slotR r : Int)] _ w6.heap.size rfl rfl rfl
            (by intro u hu; simp at hu; subst hu; rfl) (by omega) (by omega) hsz6 ?_
          intro a5 c5 w5 ho5 hg5 hl5
          have HLS5 := Lib.hid (own_lis HLIS6.out HOWN6.out hg5)
          have HNM5 := Lib.hid (own_num HNUM6.out HOWN6.out hsz6 (Nat.le_refl _) hg5)
          have HBL5 := Lib.hid (grownBy_below HBEL6.out HOWN6.out hg5 hsz6 (Nat.le_refl _))
          obtain ⟨S5, hS5⟩ : ∃ S5, S ++ [slotR r] = S5 := ⟨_, rfl⟩
          obtain ⟨r5, hr5⟩ : ∃ r5, pushFrontR r (z : Int) = r5 := ⟨_, rfl⟩
          have hlS : S5.length = S.length + 1 := by rw [← hS5]; simp
          have HOW5 : Hid (w5.ownsRow w.heap.size 3 1 (.slice a5 S5.length c5) S5.length (natsV S5)) := by
            rw [hlS, ← hS5, show natsV (S ++ [slotR r]) = natsV S ++ [.int .i64 (slotR r : Int)] from by unfold natsV; simp]
            exact ho5
          have HFW5 := Lib.hid (few_pf HFEW.out (z : Int))
          rw [hS5, hr5] at HKP
          rw [hr5] at HLS5 HFW5
          have HIN5 := HKP
          have hN5 : N + 1 + 1 ≤ n + 1 := by omega
          obtain ⟨N5, hN5e⟩ : ∃ N5, N5 = N + 1 + 1 := ⟨_, rfl⟩
          rw [← hN5e] at HFW5 HNM5 hN5
          have HN5E := Lib.hid hN5e
          have hlt5 : N < N5 := by omega
          have hm5 : m ≤ N5 := by omega
          rw [← hlS]
          have hsz5 : w.heap.size ≤ w5.heap.size := HBL5.out.size
          clear ho5 hg5 hl5 HLIS6 HNUM6 HOWN6 HBEL6 HKP hS5 hr5 HINV HFEW hlS hN5e
          obtain ⟨q1, q2, q3, q4⟩ : (placeR r5.E 0).isSome = true ∧ valueR r5.E 0 = 1000 ∧ r5.E.length = S5.length + 1 ∧ ∀ (i s : Nat), S5[i]? = some s → s ≠ 0 ∧ s < max m (S5.length + 1) := by
            obtain ⟨c5', h1, h2⟩ := HLS5.out
            exact inv_ask HIN5.out h2
          have hV := lval_any w5 w.heap.size (w.heap.size + 1) rv5 r5 0 HLS5.out
          rw [q1, q2] at hV
          have hL := llenR_any w5 w.heap.size (w.heap.size + 1) rv5 r5 HLS5.out
          rw [q3] at hL
          have HV := Lib.hid hV
          have HLn := Lib.hid hL
          have HQ4 := Lib.hid q4
          have hSl5 : S5.length ≤ N5 := by have := HFW5.out.E; omega
          obtain ⟨_, gs, _, hav, has, _, _, hcs⟩ := owns_cells HOW5.out
          have HCS : Hid (∀ (i s : Nat), S5[i]? = some s → w5.cell? ⟨gs, 0 + i, none⟩ = some (.int .i64 (s : Int))) := fun i s hs => hcs i _ (by unfold natsV; rw [List.getElem?_map, hs]; rfl)
          have HAS : Hid (0 < S5.length → a5 = some ⟨gs, 0, none⟩) := fun hp => by
            injection hav with e1 e2 e3
            rw [e1]; exact has hp
          have hfin : ∀ mx : Nat, max m (S5.length + 1) ≤ mx → mx ≤ N5 + 1 → SloAt w (w.heap.size + 1) (w.heap.size + 1 + 1) n (.slice a5 S5.length c5) (.int .i64 (mx : Int)) w5 ∧ n - numN w5 (w.heap.size + 1 + 1) < n - numN wr (w.heap.size + 1 + 1) := fun mx h1 h2 => by
            refine ⟨⟨N5, mx, rv5, r5, S5, rfl, hN5, HLS5.out, HNM5.out, HOW5.out, inv_more HIN5.out mx h1, HBL5.out, few_more HFW5.out (by omega), by omega⟩, ?_⟩
            rw [HNM5.out.numN, HQ.out]
            omega
          have HFIN := Lib.hid hfin
          clear q1 q2 q3 q4 hV hL hav has hcs hfin HBL5 HNM5 HLS5 HIN5 HFW5 HN5E
          have tl : (((S5.length : Int) + 1) != ((S5.length : Int) + 1)) = false := by simp
          rcases Nat.lt_or_ge m (S5.length + 1) with hmm | hmm
          · have hmm' : ¬ ((S5.length : Int) + 1 ≤ (m : Int)) := by omega
            have HFN := Lib.hid (HFIN.out (S5.length + 1) (by omega) (by omega))
            have HQ5 : Hid (∀ (i s : Nat), S5[i]? = some s → s ≠ 0 ∧ s < S5.length + 1) := fun i s hs => by obtain ⟨h1, h2⟩ := HQ4.out i s hs; exact ⟨h1, by omega⟩
            clear HQ4 HFIN
            go_wp2_with fail
            refine HV.out.mono ?_
            rintro e w6 ⟨rfl, rfl⟩
            go_wp2_with fail
            refine HLn.out.mono ?_
            rintro e w6 ⟨rfl, rfl⟩
            go_wp2_with fail
            go_loop [100] (fun i => ∃ k : Nat, k ≤ S5.length ∧ i = .int .i64 (k : Int)) (fun i => S5.length - (intOf i).toNat)
            case atStart => exact ⟨0, by omega, rfl⟩
            case round =>
              obtain ⟨k, hk, rfl⟩ := hrel
              rcases Nat.lt_or_ge k S5.length with hkl | hkl
              · obtain ⟨s, hs⟩ : ∃ s, S5[k]? = some s := ⟨S5[k]'hkl, List.getElem?_eq_getElem hkl⟩
                obtain ⟨s1, s2⟩ := HQ5.out k s hs
                have d := HCS.out k s hs
                rw [Nat.zero_add] at d
                obtain rfl := HAS.out (by omega)
                have hkl' : (k : Int) < S5.length := by omega
                have t1 : ¬ ((s : Int) < 0) := by omega
                have t2 : ¬ ((S5.length : Int) + 1 ≤ (s : Int)) := by omega
                have t3 : ((s : Int) == 0) = false := by simp; omega
                clear hs
                go_wp2_with fail
                go_round
                case rel => exact ⟨k + 1, by omega, by go_num⟩
                case measure => simp [intOf]; omega
              · have hkl' : ¬ ((k : Int) < S5.length) := by omega
                go_wp2_with fail
                go_roundw
                case rel => exact HFN.out.1
                case measure => exact HFN.out.2
          · have hmm' : (S5.length : Int) + 1 ≤ (m : Int) := by omega
            have HFN := Lib.hid (HFIN.out m (by omega) (by omega))
            have HQ5 : Hid (∀ (i s : Nat), S5[i]? = some s → s ≠ 0 ∧ s < m) := fun i s hs => by obtain ⟨h1, h2⟩ := HQ4.out i s hs; exact ⟨h1, by omega⟩
            clear HQ4 HFIN
            go_wp2_with fail
            refine HV.out.mono ?_
            rintro e w6 ⟨rfl, rfl⟩
            go_wp2_with fail
            refine HLn.out.mono ?_
            rintro e w6 ⟨rfl, rfl⟩
            go_wp2_with fail
            go_loop [100] (fun i => ∃ k : Nat, k ≤ S5.length ∧ i = .int .i64 (k : Int)) (fun i => S5.length - (intOf i).toNat)
            case atStart => exact ⟨0, by omega, rfl⟩
            case round =>
              obtain ⟨k, hk, rfl⟩ := hrel
              rcases Nat.lt_or_ge k S5.length with hkl | hkl
              · obtain ⟨s, hs⟩ : ∃ s, S5[k]? = some s := ⟨S5[k]'hkl, List.getElem?_eq_getElem hkl⟩
                obtain ⟨s1, s2⟩ := HQ5.out k s hs
                have d := HCS.out k s hs
                rw [Nat.zero_add] at d
                obtain rfl := HAS.out (by omega)
                have hkl' : (k : Int) < S5.length := by omega
                have t1 : ¬ ((s : Int) < 0) := by omega
                have t2 : ¬ ((m : Int) ≤ (s : Int)) := by omega
                have t3 : ((s : Int) == 0) = false := by simp; omega
                clear hs
                go_wp2_with fail
                go_round
                case rel => exact ⟨k + 1, by omega, by go_num⟩
                case measure => simp [intOf]; omega
              · have hkl' : ¬ ((k : Int) < S5.length) := by omega
                go_wp2_with fail
                go_roundw
                case rel => exact HFN.out.1
                case measure => exact HFN.out.2
        · rcases Nat.eq_zero_or_pos S.length with hS0 | hS0
          · have hS0' : ¬ (0 < (S.length : Int)) := by omega
            obtain ⟨w5, rfl⟩ : ∃ w5, w5 = w4 := ⟨_, rfl⟩
            obtain ⟨rv5, rfl⟩ : ∃ rv5, rv5 = rv := ⟨_, rfl⟩
            obtain ⟨r5, rfl⟩ : ∃ r5, r5 = r := ⟨_, rfl⟩
            obtain ⟨S5, rfl⟩ : ∃ S5, S5 = S := ⟨_, rfl⟩
            obtain ⟨a5, rfl⟩ : ∃ a5, a5 = aS := ⟨_, rfl⟩
            obtain ⟨c5, rfl⟩ : ∃ c5, c5 = cS := ⟨_, rfl⟩
            obtain ⟨N5, hN5e⟩ : ∃ N5, N5 = N + 1 := ⟨_, rfl⟩
            have HLS5 := HLIS4
            have HOW5 := HOWN4
            have HBL5 := HBEL4
            have HNM5 := HNUM4
            have HIN5 := Lib.hid (inv_more HINV.out (max m (S5.length + 1)) (Nat.le_max_left _ _))
            have HFW5 := Lib.hid (few_more HFEW.out (show N + 1 ≤ N5 + 1 by omega))
            rw [← hN5e] at HNM5
            have hN5 : N5 ≤ n + 1 := by omega
            have HN5E := Lib.hid hN5e
            have hlt5 : N < N5 := by omega
            have hm5 : m ≤ N5 := by omega
            have hsz5 : w.heap.size ≤ w5.heap.size := hsz4
            have HS0 := Lib.hid hS0
            clear HLIS4 HOWN4 HBEL4 HNUM4 HINV HFEW hN5e hS0
            obtain ⟨q1, q2, q3, q4⟩ : (placeR r5.E 0).isSome = true ∧ valueR r5.E 0 = 1000 ∧ r5.E.length = S5.length + 1 ∧ ∀ (i s : Nat), S5[i]? = some s → s ≠ 0 ∧ s < max m (S5.length + 1) := by
              obtain ⟨c5', h1, h2⟩ := HLS5.out
              exact inv_ask HIN5.out h2
            have hV := lval_any w5 w.heap.size (w.heap.size + 1) rv5 r5 0 HLS5.out
            rw [q1, q2] at hV
            have hL := llenR_any w5 w.heap.size (w.heap.size + 1) rv5 r5 HLS5.out
            rw [q3] at hL
            have HV := Lib.hid hV
            have HLn := Lib.hid hL
            have HQ4 := Lib.hid q4
            have hSl5 : S5.length ≤ N5 := by have := HFW5.out.E; omega
            obtain ⟨_, gs, _, hav, has, _, _, hcs⟩ := owns_cells HOW5.out
            have HCS : Hid (∀ (i s : Nat), S5[i]? = some s → w5.cell? ⟨gs, 0 + i, none⟩ = some (.int .i64 (s : Int))) := fun i s hs => hcs i _ (by unfold natsV; rw [List.getElem?_map, hs]; rfl)
            have HAS : Hid (0 < S5.length → a5 = some ⟨gs, 0, none⟩) := fun hp => by
              injection hav with e1 e2 e3
              rw [e1]; exact has hp
            have hfin : ∀ mx : Nat, max m (S5.length + 1) ≤ mx → mx ≤ N5 + 1 → SloAt w (w.heap.size + 1) (w.heap.size + 1 + 1) n (.slice a5 S5.length c5) (.int .i64 (mx : Int)) w5 ∧ n - numN w5 (w.heap.size + 1 + 1) < n - numN wr (w.heap.size + 1 + 1) := fun mx h1 h2 => by
              refine ⟨⟨N5, mx, rv5, r5, S5, rfl, hN5, HLS5.out, HNM5.out, HOW5.out, inv_more HIN5.out mx h1, HBL5.out, few_more HFW5.out (by omega), by omega⟩, ?_⟩
              rw [HNM5.out.numN, HQ.out]
              omega
            have HFIN := Lib.hid hfin
            clear q1 q2 q3 q4 hV hL hav has hcs hfin HBL5 HNM5 HLS5 HIN5 HFW5 HN5E
            have tl : (((S5.length : Int) + 1) != ((S5.length : Int) + 1)) = false := by simp
            rcases Nat.lt_or_ge m (S5.length + 1) with hmm | hmm
            · have hmm' : ¬ ((S5.length : Int) + 1 ≤ (m : Int)) := by omega
              have HFN := Lib.hid (HFIN.out (S5.length + 1) (by omega) (by omega))
              have HQ5 : Hid (∀ (i s : Nat), S5[i]? = some s → s ≠ 0 ∧ s < S5.length + 1) := fun i s hs => by obtain ⟨h1, h2⟩ := HQ4.out i s hs; exact ⟨h1, by omega⟩
              clear HQ4 HFIN
              go_wp2_with fail
              refine HV.out.mono ?_
              rintro e w6 ⟨rfl, rfl⟩
              go_wp2_with fail
              refine HLn.out.mono ?_
              rintro e w6 ⟨rfl, rfl⟩
              go_wp2_with fail
              go_loop [100] (fun i => ∃ k : Nat, k ≤ S5.length ∧ i = .int .i64 (k : Int)) (fun i => S5.length - (intOf i).toNat)
              case atStart => exact ⟨0, by omega, rfl⟩
              case round =>
                obtain ⟨k, hk, rfl⟩ := hrel
                rcases Nat.lt_or_ge k S5.length with hkl | hkl
                · obtain ⟨s, hs⟩ : ∃ s, S5[k]? = some s := ⟨S5[k]'hkl, List.getElem?_eq_getElem hkl⟩
                  obtain ⟨s1, s2⟩ := HQ5.out k s hs
                  have d := HCS.out k s hs
                  rw [Nat.zero_add] at d
                  obtain rfl := HAS.out (by omega)
                  have hkl' : (k : Int) < S5.length := by omega
                  have t1 : ¬ ((s : Int) < 0) := by omega
                  have t2 : ¬ ((S5.length : Int) + 1 ≤ (s : Int)) := by omega
                  have t3 : ((s : Int) == 0) = false := by simp; omega
                  clear hs
                  go_wp2_with fail
                  go_round
                  case rel => exact ⟨k + 1, by omega, by go_num⟩
                  case measure => simp [intOf]; omega
                · have hkl' : ¬ ((k : Int) < S5.length) := by omega
                  go_wp2_with fail
                  go_roundw
                  case rel => exact HFN.out.1
                  case measure => exact HFN.out.2
            · have hmm' : (S5.length : Int) + 1 ≤ (m : Int) := by omega
              have HFN := Lib.hid (HFIN.out m (by omega) (by omega))
              have HQ5 : Hid (∀ (i s : Nat), S5[i]? = some s → s ≠ 0 ∧ s < m) := fun i s hs => by obtain ⟨h1, h2⟩ := HQ4.out i s hs; exact ⟨h1, by omega⟩
              clear HQ4 HFIN
              go_wp2_with fail
              refine HV.out.mono ?_
              rintro e w6 ⟨rfl, rfl⟩
              go_wp2_with fail
              refine HLn.out.mono ?_
              rintro e w6 ⟨rfl, rfl⟩
              go_wp2_with fail
              go_loop [100] (fun i => ∃ k : Nat, k ≤ S5.length ∧ i = .int .i64 (k : Int)) (fun i => S5.length - (intOf i).toNat)
              case atStart => exact ⟨0, by omega, rfl⟩
              case round =>
                obtain ⟨k, hk, rfl⟩ := hrel
                rcases Nat.lt_or_ge k S5.length with hkl | hkl
                · obtain ⟨s, hs⟩ : ∃ s, S5[k]? = some s := ⟨S5[k]'hkl, List.getElem?_eq_getElem hkl⟩
                  obtain ⟨s1, s2⟩ := HQ5.out k s hs
                  have d := HCS.out k s hs
                  rw [Nat.zero_add] at d
                  obtain rfl := HAS.out (by omega)
                  have hkl' : (k : Int) < S5.length := by omega
                  have t1 : ¬ ((s : Int) < 0) := by omega
                  have t2 : ¬ ((m : Int) ≤ (s : Int)) := by omega
                  have t3 : ((s : Int) == 0) = false := by simp; omega
                  clear hs
                  go_wp2_with fail
                  go_round
                  case rel => exact ⟨k + 1, by omega, by go_num⟩
                  case measure => simp [intOf]; omega
                · have hkl' : ¬ ((k : Int) < S5.length) := by omega
                  go_wp2_with fail
                  go_roundw
                  case rel => exact HFN.out.1
                  case measure => exact HFN.out.2
          · have hS0' : (0 : Int) < (S.length : Int) := by omega
            go_wp2_with fail
            refine (next_any w4 w.heap.size (w.heap.size + 1 + 1) n (N + 1) S.length HNUM4.out (by omega) (by omega) (by omega)).mono ?_
            rintro e w5 ⟨i, hil, rfl, ho5, hz5, hn5⟩
            have HLIS5 := Lib.hid (HLIS4.out.num HNUM4.out ho5)
            have HOWN5 : Hid (w5.ownsRow w.heap.size 3 1 (.slice aS S.length cS) S.length (natsV S)) := by
              obtain ⟨A, cc, f, _, hb, _⟩ := HNUM4.out
              exact owns_only HOWN4.out ho5 (fun g hg e => own_blk_ne HOWN4.out hb (by decide) (by rw [← e]; exact hg))
            have HBEL5 := Lib.hid (ho5.below_trans HBEL4.out hsz4 (fun k hk => by omega))
            have HNUM5 := Lib.hid hn5
            have hsz5 : w.heap.size ≤ w5.heap.size := by omega
            obtain ⟨s, hs⟩ : ∃ s, S[i]? = some s := ⟨S[i]'hil, List.getElem?_eq_getElem hil⟩
            obtain ⟨aS', gs, cS', hav, has, hgl, hcap, hcs⟩ := owns_cells HOWN5.out
            have hd := hcs i (.int .i64 (s : Int)) (by unfold natsV; rw [List.getElem?_map, hs]; rfl)
            rw [Nat.zero_add] at hd
            obtain ⟨rfl, rfl⟩ : aS' = aS ∧ cS' = cS := by injection hav with e1 e2 e3; exact ⟨e1.symm, e3.symm⟩
            obtain rfl := has hS0
            have hil' : (i : Int) < S.length := by omega
            have hi0 : (0 : Int) ≤ i := by omega
            have HKP : Hid (Keeps (dropR r (s : Int)) (S.take i ++ S.drop (i + 1)) m ∧ (placeR r.E (s : Int)).isSome = true) := by
              obtain ⟨c5', h1, h2⟩ := HLIS5.out
              exact inv_drop HINV.out h2 hs
            have hrem := lrem_any w5 w.heap.size (w.heap.size + 1) rv r (s : Int) HLIS5.out hsz5 (by have := HFEW.out.E; omega)
            rw [HKP.out.2] at hrem
            have HREM := Lib.hid hrem
            clear ho5 hz5 hn5 HNUM4 HLIS4 HOWN4 HBEL4 hav has hcs hgl hrem
            go_wp2_with fail
            refine HREM.out.mono ?_
            rintro e w6 ⟨rfl, ho6, rv5, hl6⟩
            have HLIS6 := Lib.hid hl6
            have HNUM6 := Lib.hid (HNUM5.out.lis HLIS5.out hsz5 ho6)
            have HOWN6 := Lib.hid (HLIS5.out.row_ne HOWN5.out (by decide) (by decide) ho6)
            have HBEL6 := Lib.hid (ho6.below_trans HBEL5.out hsz5 HLIS5.out.ge)
            have hsz6 : w.heap.size ≤ w6.heap.size := Nat.le_trans hsz5 ho6.size
            have HR6 := Lib.hid (Reads.of_own HOWN6.out)
            obtain ⟨S5, hS5⟩ : ∃ S5, S.take i ++ S.drop (i + 1) = S5 := ⟨_, rfl⟩
            obtain ⟨r5, hr5⟩ : ∃ r5, dropR r (s : Int) = r5 := ⟨_, rfl⟩
            have HFW5 := Lib.hid (few_drop HFEW.out (s : Int))
            rw [hr5] at HLIS6 HKP HFW5
            rw [hS5] at HKP
            have HS5 := Lib.hid hS5
            have HI := Lib.hid hs
            have hcm : cS' ≤ 9223372036854775807 := by
              rcases HOWN6.out.2 with ⟨h1, _⟩ | ⟨g, cap, cur, h1, _, _, _, h5, _⟩
              · cases h1
              · injection h1 with e1 e2 e3; rw [e3]; exact h5
            clear ho6 hl6 HLIS5 HNUM5 HOWN5 HBEL5 hS5 hr5 hs hd HREM
            have hR1 : Reads (w6.alloc (.cells #[] 3)).drew w6.heap.size 1 (some ⟨gs, 0, none⟩) i (natsV (S.take i)) := by
              have h0 := HR6.out.alloc (Nat.le_refl _) (.cells #[] 3)
              refine ⟨by unfold natsV; rw [List.length_map, List.length_take]; omega, fun hp => ?_⟩
              obtain ⟨ad, h1, h2, h3⟩ := h0.2 (by omega)
              refine ⟨ad, h1, h2, fun j u hu => h3 j u ?_⟩
              unfold natsV at hu ⊢
              rw [List.map_take, List.getElem?_take] at hu
              split at hu
              · exact hu
              · cases hu
            have hown : (w6.alloc (.cells #[] 3)).drew.ownsRow w6.heap.size 3 1 (.slice (some ⟨w6.heap.size, 0, none⟩) 0 0) 0 [] := lit0 w6 _ 1
            have hbl : Below w6.heap.size w6 (w6.alloc (.cells #[] 3)).drew := belowDrew2 ((Below.refl _ _).alloc (Nat.le_refl _) _)
            have HR1 := Lib.hid hR1
            have HO := Lib.hid hown
            have HBL := Lib.hid hbl
            have t1 : (i : Int) ≤ cS' := by omega
            have t2 : (i : Int) + 1 ≤ S.length := by omega
            have t3 : (S.length : Int) ≤ cS' := by omega
            have q1 : IntKind.i64.wrap ((i : Int) + 1) = (i : Int) + 1 := IntWalk.i64_in _ (by omega)
            have p0 : (0 : Int) ≤ (i : Int) + 1 := by omega
            have p1 : ((i : Int) + 1).toNat = i + 1 := by omega
            have hi1 : i ≤ 1048576 := by omega
            clear hR1 hown hbl
            by_cases hc : cS' = i + 1
            · have hEl : S.length = i + 1 := by omega
              have HEL := Lib.hid hEl
              have hlS5 : Hid (S5 = S.take i) := by show _ = _; rw [← HS5.out, List.drop_of_length_le (by omega), List.append_nil]
              have hSl' : i + 1 ≤ N + 1 := by omega
              rw [hEl]
              subst hc
              clear hEl hil t2 t3 hcap hil' hS0 hS0' hSl
              have t2 : (i : Int) < (i : Int) + 1 := by omega
              have t4 : (i : Int) ≤ (i : Int) + 1 := by omega
              go_wp2_with fail
              go_region_held3 (fun w' => True) (trivial) (first
                | ((refine step_append_any _ (by rfl) (.tmp 63) (.tmp 66) _ (by rfl) w6.heap.size 3 i0 _ 1 8 Try.underlying22 hi hz0 hz1 hz2 rfl (by omega) (.slice (some ⟨w6.heap.size, 0, none⟩) 0 0) 0 [] (by rfl) HO.out w6.heap.size (some ⟨gs, 0, none⟩) i (i + 1) (natsV (S.take i)) (by rfl) HR1.out (natsV_one _) (by unfold maxLen; omega) (by omega) HBL.out.size ?_; intro v1 w7 ho1 hg1 hat1; rw [Nat.zero_add, List.nil_append] at ho1; obtain ⟨A1, c1, rfl⟩ := owns_form ho1; have hb1 : Below w6.heap.size w6 w7 := HBL.out.grown hg1 HBL.out.size (fun g e => by have := Option.some.inj (show some w6.heap.size = some g from e); omega); have HB1 := Lib.hid hb1; have HO1 := Lib.hid ho1; have hz1' := hb1.size; clear hb1 ho1 hg1 hat1))
                | ((refine step_append_any _ (by rfl) (.tmp 67) (.tmp 71) _ (by rfl) w6.heap.size 3 i0 _ 1 8 Try.underlying22 hi hz0 hz1 hz2 rfl (by omega) (.slice A1 i c1) i (natsV (S.take i)) (by rfl) HO1.out w6.heap.size (some ⟨gs, 0, none⟩) 0 0 [] (by rfl) (Reads.none_ (A := some ⟨gs, 0, none⟩)) (by simp) (by unfold maxLen; omega) (by omega) hz1' ?_; intro v2 w5 ho2 hg2 hat2; rw [Nat.add_zero, List.append_nil] at ho2; obtain ⟨a5, c5, rfl⟩ := owns_form ho2; have hb2 : Below w6.heap.size w6 w5 := HB1.out.grown hg2 hz1' (fun g e => (HO1.out.lt g e).1); have HB2 := Lib.hid hb2; have HO2 := Lib.hid ho2; clear hb2 ho2 hg2 hat2)))
              have hlen5 : S5.length = i := by rw [hlS5.out, List.length_take, HEL.out]; omega
              have HOW5 : Hid (w5.ownsRow w.heap.size 3 1 (.slice a5 S5.length c5) S5.length (natsV S5)) := by
                rw [hlen5, hlS5.out]; exact owns_base HO2.out hsz6
              rw [← hlen5]
              have HLS5 := Lib.hid (HLIS6.out.below HB2.out)
              have HNM5 := Lib.hid (HNUM6.out.only (Only.of_below (fun _ => False) HB2.out) hsz6 (fun _ h => h.elim) (fun h => h))
              have HBL5 := Lib.hid (HBEL6.out.trans (HB2.out.mono hsz6))
              have HIN5 := Lib.hid (inv_more HKP.out.1 (max m (S5.length + 1)) (Nat.le_max_left _ _))
              obtain ⟨N5, hN5e⟩ : ∃ N5, N5 = N + 1 + 1 := ⟨_, rfl⟩
              have HFW5 := Lib.hid (few_more HFW5.out (show N + 1 + 1 ≤ N5 + 1 by omega))
              rw [← hN5e] at HNM5
              have hN5 : N5 ≤ n + 1 := by omega
              have HN5E := Lib.hid hN5e
              have hlt5 : N < N5 := by omega
              have hm5 : m ≤ N5 := by omega
              have hsz5 : w.heap.size ≤ w5.heap.size := HBL5.out.size
              have HLEN := Lib.hid hlen5
              clear HLIS6 HNUM6 HBEL6 HKP HINV HFEW hN5e HR1 HO HBL HR6 HB2 HO2 hlen5
              obtain ⟨q1, q2, q3, q4⟩ : (placeR r5.E 0).isSome = true ∧ valueR r5.E 0 = 1000 ∧ r5.E.length = S5.length + 1 ∧ ∀ (i s : Nat), S5[i]? = some s → s ≠ 0 ∧ s < max m (S5.length + 1) := by
                obtain ⟨c5', h1, h2⟩ := HLS5.out
                exact inv_ask HIN5.out h2
              have hV := lval_any w5 w.heap.size (w.heap.size + 1) rv5 r5 0 HLS5.out
              rw [q1, q2] at hV
              have hL := llenR_any w5 w.heap.size (w.heap.size + 1) rv5 r5 HLS5.out
              rw [q3] at hL
              have HV := Lib.hid hV
              have HLn := Lib.hid hL
              have HQ4 := Lib.hid q4
              have hSl5 : S5.length ≤ N5 := by have := HFW5.out.E; omega
              obtain ⟨_, gs, _, hav, has, _, _, hcs⟩ := owns_cells HOW5.out
              have HCS : Hid (∀ (i s : Nat), S5[i]? = some s → w5.cell? ⟨gs, 0 + i, none⟩ = some (.int .i64 (s : Int))) := fun i s hs => hcs i _ (by unfold natsV; rw [List.getElem?_map, hs]; rfl)
              have HAS : Hid (0 < S5.length → a5 = some ⟨gs, 0, none⟩) := fun hp => by
                injection hav with e1 e2 e3
                rw [e1]; exact has hp
              have hfin : ∀ mx : Nat, max m (S5.length + 1) ≤ mx → mx ≤ N5 + 1 → SloAt w (w.heap.size + 1) (w.heap.size + 1 + 1) n (.slice a5 S5.length c5) (.int .i64 (mx : Int)) w5 ∧ n - numN w5 (w.heap.size + 1 + 1) < n - numN wr (w.heap.size + 1 + 1) := fun mx h1 h2 => by
                refine ⟨⟨N5, mx, rv5, r5, S5, rfl, hN5, HLS5.out, HNM5.out, HOW5.out, inv_more HIN5.out mx h1, HBL5.out, few_more HFW5.out (by omega), by omega⟩, ?_⟩
                rw [HNM5.out.numN, HQ.out]
                omega
              have HFIN := Lib.hid hfin
              clear q1 q2 q3 q4 hV hL hav has hcs hfin HBL5 HNM5 HLS5 HIN5 HFW5 HN5E
              have tl : (((S5.length : Int) + 1) != ((S5.length : Int) + 1)) = false := by simp
              rcases Nat.lt_or_ge m (S5.length + 1) with hmm | hmm
              · have hmm' : ¬ ((S5.length : Int) + 1 ≤ (m : Int)) := by omega
                have HFN := Lib.hid (HFIN.out (S5.length + 1) (by omega) (by omega))
                have HQ5 : Hid (∀ (i s : Nat), S5[i]? = some s → s ≠ 0 ∧ s < S5.length + 1) := fun i s hs => by obtain ⟨h1, h2⟩ := HQ4.out i s hs; exact ⟨h1, by omega⟩
                clear HQ4 HFIN
                go_wp2_with fail
                refine HV.out.mono ?_
                rintro e w6 ⟨rfl, rfl⟩
                go_wp2_with fail
                refine HLn.out.mono ?_
                rintro e w6 ⟨rfl, rfl⟩
                go_wp2_with fail
                go_loop [100] (fun i => ∃ k : Nat, k ≤ S5.length ∧ i = .int .i64 (k : Int)) (fun i => S5.length - (intOf i).toNat)
                case atStart => exact ⟨0, by omega, rfl⟩
                case round =>
                  obtain ⟨k, hk, rfl⟩ := hrel
                  rcases Nat.lt_or_ge k S5.length with hkl | hkl
                  · obtain ⟨s, hs⟩ : ∃ s, S5[k]? = some s := ⟨S5[k]'hkl, List.getElem?_eq_getElem hkl⟩
                    obtain ⟨s1, s2⟩ := HQ5.out k s hs
                    have d := HCS.out k s hs
                    rw [Nat.zero_add] at d
                    obtain rfl := HAS.out (by omega)
                    have hkl' : (k : Int) < S5.length := by omega
                    have t1 : ¬ ((s : Int) < 0) := by omega
                    have t2 : ¬ ((S5.length : Int) + 1 ≤ (s : Int)) := by omega
                    have t3 : ((s : Int) == 0) = false := by simp; omega
                    clear hs
                    go_wp2_with fail
                    go_round
                    case rel => exact ⟨k + 1, by omega, by go_num⟩
                    case measure => simp [intOf]; omega
                  · have hkl' : ¬ ((k : Int) < S5.length) := by omega
                    go_wp2_with fail
                    go_roundw
                    case rel => exact HFN.out.1
                    case measure => exact HFN.out.2
              · have hmm' : (S5.length : Int) + 1 ≤ (m : Int) := by omega
                have HFN := Lib.hid (HFIN.out m (by omega) (by omega))
                have HQ5 : Hid (∀ (i s : Nat), S5[i]? = some s → s ≠ 0 ∧ s < m) := fun i s hs => by obtain ⟨h1, h2⟩ := HQ4.out i s hs; exact ⟨h1, by omega⟩
                clear HQ4 HFIN
                go_wp2_with fail
                refine HV.out.mono ?_
                rintro e w6 ⟨rfl, rfl⟩
                go_wp2_with fail
                refine HLn.out.mono ?_
                rintro e w6 ⟨rfl, rfl⟩
                go_wp2_with fail
                go_loop [100] (fun i => ∃ k : Nat, k ≤ S5.length ∧ i = .int .i64 (k : Int)) (fun i => S5.length - (intOf i).toNat)
                case atStart => exact ⟨0, by omega, rfl⟩
                case round =>
                  obtain ⟨k, hk, rfl⟩ := hrel
                  rcases Nat.lt_or_ge k S5.length with hkl | hkl
                  · obtain ⟨s, hs⟩ : ∃ s, S5[k]? = some s := ⟨S5[k]'hkl, List.getElem?_eq_getElem hkl⟩
                    obtain ⟨s1, s2⟩ := HQ5.out k s hs
                    have d := HCS.out k s hs
                    rw [Nat.zero_add] at d
                    obtain rfl := HAS.out (by omega)
                    have hkl' : (k : Int) < S5.length := by omega
                    have t1 : ¬ ((s : Int) < 0) := by omega
                    have t2 : ¬ ((m : Int) ≤ (s : Int)) := by omega
                    have t3 : ((s : Int) == 0) = false := by simp; omega
                    clear hs
                    go_wp2_with fail
                    go_round
                    case rel => exact ⟨k + 1, by omega, by go_num⟩
                    case measure => simp [intOf]; omega
                  · have hkl' : ¬ ((k : Int) < S5.length) := by omega
                    go_wp2_with fail
                    go_roundw
                    case rel => exact HFN.out.1
                    case measure => exact HFN.out.2
            · have hR2 : ∀ W, Below w6.heap.size w6 W → Reads W w6.heap.size 1 (some ⟨gs, i + 1, none⟩) (S.length - (i + 1)) (natsV (S.drop (i + 1))) := fun W hW => by
                have h0 := (HR6.out.below hW).cut (k := i + 1) (cap := cS') (by omega) hcap
                rw [if_neg hc, Nat.mul_one] at h0
                unfold natsV at h0 ⊢
                rw [List.map_drop]
                simpa [add_flat] using h0
              have HR2 := Lib.hid hR2
              clear hR2
              go_wp2_with fail
              go_region_held3 (fun w' => True) (trivial) (first
                | ((refine step_append_any _ (by rfl) (.tmp 63) (.tmp 66) _ (by rfl) w6.heap.size 3 i0 _ 1 8 Try.underlying22 hi hz0 hz1 hz2 rfl (by omega) (.slice (some ⟨w6.heap.size, 0, none⟩) 0 0) 0 [] (by rfl) HO.out w6.heap.size (some ⟨gs, 0, none⟩) i cS' (natsV (S.take i)) (by rfl) HR1.out (natsV_one _) (by unfold maxLen; omega) (by omega) HBL.out.size ?_; intro v1 w7 ho1 hg1 hat1; rw [Nat.zero_add, List.nil_append] at ho1; obtain ⟨A1, c1, rfl⟩ := owns_form ho1; have hb1 : Below w6.heap.size w6 w7 := HBL.out.grown hg1 HBL.out.size (fun g e => by have := Option.some.inj (show some w6.heap.size = some g from e); omega); have HR3 := Lib.hid (HR2.out w7 hb1); have HB1 := Lib.hid hb1; have HO1 := Lib.hid ho1; have hz1' := hb1.size; clear hb1 ho1 hg1 hat1))
                | ((refine step_append_any _ (by rfl) (.tmp 67) (.tmp 71) _ (by rfl) w6.heap.size 3 i0 _ 1 8 Try.underlying22 hi hz0 hz1 hz2 rfl (by omega) (.slice A1 i c1) i (natsV (S.take i)) (by rfl) HO1.out w6.heap.size (some ⟨gs, i + 1, none⟩) (S.length - (i + 1)) (cS' - (i + 1)) _ (by rfl) HR3.out (natsV_one _) (by unfold maxLen; omega) (by omega) hz1' ?_; intro v2 w5 ho2 hg2 hat2; obtain ⟨a5, c5, rfl⟩ := owns_form ho2; have hb2 : Below w6.heap.size w6 w5 := HB1.out.grown hg2 hz1' (fun g e => (HO1.out.lt g e).1); have HB2 := Lib.hid hb2; have HO2 := Lib.hid ho2; clear hb2 ho2 hg2 hat2)))
              have hlen5 : S5.length = i + (S.length - (i + 1)) := by rw [← HS5.out, List.length_append, List.length_take, List.length_drop]; omega
              have HOW5 : Hid (w5.ownsRow w.heap.size 3 1 (.slice a5 S5.length c5) S5.length (natsV S5)) := by
                rw [hlen5, ← HS5.out, show natsV (S.take i ++ S.drop (i + 1)) = natsV (S.take i) ++ natsV (S.drop (i + 1)) from by unfold natsV; rw [List.map_append]]
                exact owns_base HO2.out hsz6
              rw [← hlen5]
              have HLS5 := Lib.hid (HLIS6.out.below HB2.out)
              have HNM5 := Lib.hid (HNUM6.out.only (Only.of_below (fun _ => False) HB2.out) hsz6 (fun _ h => h.elim) (fun h => h))
              have HBL5 := Lib.hid (HBEL6.out.trans (HB2.out.mono hsz6))
              have HIN5 := Lib.hid (inv_more HKP.out.1 (max m (S5.length + 1)) (Nat.le_max_left _ _))
              obtain ⟨N5, hN5e⟩ : ∃ N5, N5 = N + 1 + 1 := ⟨_, rfl⟩
              have HFW5 := Lib.hid (few_more HFW5.out (show N + 1 + 1 ≤ N5 + 1 by omega))
              rw [← hN5e] at HNM5
              have hN5 : N5 ≤ n + 1 := by omega
              have HN5E := Lib.hid hN5e
              have hlt5 : N < N5 := by omega
              have hm5 : m ≤ N5 := by omega
              have hsz5 : w.heap.size ≤ w5.heap.size := HBL5.out.size
              have HLEN := Lib.hid hlen5
              clear HLIS6 HNUM6 HBEL6 HKP HINV HFEW hN5e HR1 HO HBL HR6 HB2 HO2 hlen5
              obtain ⟨q1, q2, q3, q4⟩ : (placeR r5.E 0).isSome = true ∧ valueR r5.E 0 = 1000 ∧ r5.E.length = S5.length + 1 ∧ ∀ (i s : Nat), S5[i]? = some s → s ≠ 0 ∧ s < max m (S5.length + 1) := by
                obtain ⟨c5', h1, h2⟩ := HLS5.out
                exact inv_ask HIN5.out h2
              have hV := lval_any w5 w.heap.size (w.heap.size + 1) rv5 r5 0 HLS5.out
              rw [q1, q2] at hV
              have hL := llenR_any w5 w.heap.size (w.heap.size + 1) rv5 r5 HLS5.out
              rw [q3] at hL
              have HV := Lib.hid hV
              have HLn := Lib.hid hL
              have HQ4 := Lib.hid q4
              have hSl5 : S5.length ≤ N5 := by have := HFW5.out.E; omega
              obtain ⟨_, gs, _, hav, has, _, _, hcs⟩ := owns_cells HOW5.out
              have HCS : Hid (∀ (i s : Nat), S5[i]? = some s → w5.cell? ⟨gs, 0 + i, none⟩ = some (.int .i64 (s : Int))) := fun i s hs => hcs i _ (by unfold natsV; rw [List.getElem?_map, hs]; rfl)
              have HAS : Hid (0 < S5.length → a5 = some ⟨gs, 0, none⟩) := fun hp => by
                injection hav with e1 e2 e3
                rw [e1]; exact has hp
              have hfin : ∀ mx : Nat, max m (S5.length + 1) ≤ mx → mx ≤ N5 + 1 → SloAt w (w.heap.size + 1) (w.heap.size + 1 + 1) n (.slice a5 S5.length c5) (.int .i64 (mx : Int)) w5 ∧ n - numN w5 (w.heap.size + 1 + 1) < n - numN wr (w.heap.size + 1 + 1) := fun mx h1 h2 => by
                refine ⟨⟨N5, mx, rv5, r5, S5, rfl, hN5, HLS5.out, HNM5.out, HOW5.out, inv_more HIN5.out mx h1, HBL5.out, few_more HFW5.out (by omega), by omega⟩, ?_⟩
                rw [HNM5.out.numN, HQ.out]
                omega
              have HFIN := Lib.hid hfin
              clear q1 q2 q3 q4 hV hL hav has hcs hfin HBL5 HNM5 HLS5 HIN5 HFW5 HN5E
              have tl : (((S5.length : Int) + 1) != ((S5.length : Int) + 1)) = false := by simp
              rcases Nat.lt_or_ge m (S5.length + 1) with hmm | hmm
              · have hmm' : ¬ ((S5.length : Int) + 1 ≤ (m : Int)) := by omega
                have HFN := Lib.hid (HFIN.out (S5.length + 1) (by omega) (by omega))
                have HQ5 : Hid (∀ (i s : Nat), S5[i]? = some s → s ≠ 0 ∧ s < S5.length + 1) := fun i s hs => by obtain ⟨h1, h2⟩ := HQ4.out i s hs; exact ⟨h1, by omega⟩
                clear HQ4 HFIN
                go_wp2_with fail
                refine HV.out.mono ?_
                rintro e w6 ⟨rfl, rfl⟩
                go_wp2_with fail
                refine HLn.out.mono ?_
                rintro e w6 ⟨rfl, rfl⟩
                go_wp2_with fail
                go_loop [100] (fun i => ∃ k : Nat, k ≤ S5.length ∧ i = .int .i64 (k : Int)) (fun i => S5.length - (intOf i).toNat)
                case atStart => exact ⟨0, by omega, rfl⟩
                case round =>
                  obtain ⟨k, hk, rfl⟩ := hrel
                  rcases Nat.lt_or_ge k S5.length with hkl | hkl
                  · obtain ⟨s, hs⟩ : ∃ s, S5[k]? = some s := ⟨S5[k]'hkl, List.getElem?_eq_getElem hkl⟩
                    obtain ⟨s1, s2⟩ := HQ5.out k s hs
                    have d := HCS.out k s hs
                    rw [Nat.zero_add] at d
                    obtain rfl := HAS.out (by omega)
                    have hkl' : (k : Int) < S5.length := by omega
                    have t1 : ¬ ((s : Int) < 0) := by omega
                    have t2 : ¬ ((S5.length : Int) + 1 ≤ (s : Int)) := by omega
                    have t3 : ((s : Int) == 0) = false := by simp; omega
                    clear hs
                    go_wp2_with fail
                    go_round
                    case rel => exact ⟨k + 1, by omega, by go_num⟩
                    case measure => simp [intOf]; omega
                  · have hkl' : ¬ ((k : Int) < S5.length) := by omega
                    go_wp2_with fail
                    go_roundw
                    case rel => exact HFN.out.1
                    case measure => exact HFN.out.2
              · have hmm' : (S5.length : Int) + 1 ≤ (m : Int) := by omega
                have HFN := Lib.hid (HFIN.out m (by omega) (by omega))
                have HQ5 : Hid (∀ (i s : Nat), S5[i]? = some s → s ≠ 0 ∧ s < m) := fun i s hs => by obtain ⟨h1, h2⟩ := HQ4.out i s hs; exact ⟨h1, by omega⟩
                clear HQ4 HFIN
                go_wp2_with fail
                refine HV.out.mono ?_
                rintro e w6 ⟨rfl, rfl⟩
                go_wp2_with fail
                refine HLn.out.mono ?_
                rintro e w6 ⟨rfl, rfl⟩
                go_wp2_with fail
                go_loop [100] (fun i => ∃ k : Nat, k ≤ S5.length ∧ i = .int .i64 (k : Int)) (fun i => S5.length - (intOf i).toNat)
                case atStart => exact ⟨0, by omega, rfl⟩
                case round =>
                  obtain ⟨k, hk, rfl⟩ := hrel
                  rcases Nat.lt_or_ge k S5.length with hkl | hkl
                  · obtain ⟨s, hs⟩ : ∃ s, S5[k]? = some s := ⟨S5[k]'hkl, List.getElem?_eq_getElem hkl⟩
                    obtain ⟨s1, s2⟩ := HQ5.out k s hs
                    have d := HCS.out k s hs
                    rw [Nat.zero_add] at d
                    obtain rfl := HAS.out (by omega)
                    have hkl' : (k : Int) < S5.length := by omega
                    have t1 : ¬ ((s : Int) < 0) := by omega
                    have t2 : ¬ ((m : Int) ≤ (s : Int)) := by omega
                    have t3 : ((s : Int) == 0) = false := by simp; omega
                    clear hs
                    go_wp2_with fail
                    go_round
                    case rel => exact ⟨k + 1, by omega, by go_num⟩
                    case measure => simp [intOf]; omega
                  · have hkl' : ¬ ((k : Int) < S5.length) := by omega
                    go_wp2_with fail
                    go_roundw
                    case rel => exact HFN.out.1
                    case measure => exact HFN.out.2
        · go_wp2_with fail
          refine (lmov_any w4 w.heap.size (w.heap.size + 1) rv r 0 HLIS4.out hsz4 (by have := HFEW.out.E; omega)).mono ?_
          rintro e w5 ⟨rfl, ho5, rv5, hl5⟩
          have HNM5 := Lib.hid (HNUM4.out.lis HLIS4.out hsz4 ho5)
          have HOW5 := Lib.hid (HLIS4.out.row_ne HOWN4.out (by decide) (by decide) ho5)
          have HBL5 := Lib.hid (ho5.below_trans HBEL4.out hsz4 HLIS4.out.ge)
          have HIN5 : Hid (Keeps (turnR r 0) S (max m (S.length + 1))) := by
            obtain ⟨c5', h1, h2⟩ := HLIS4.out
            exact inv_more (inv_turn HINV.out h2) _ (Nat.le_max_left _ _)
          have HFW5 := Lib.hid (few_turn HFEW.out 0)
          obtain ⟨r5, hr5⟩ : ∃ r5, turnR r 0 = r5 := ⟨_, rfl⟩
          rw [hr5] at hl5 HIN5 HFW5
          have HLS5 := Lib.hid hl5
          obtain ⟨S5, rfl⟩ : ∃ S5, S5 = S := ⟨_, rfl⟩
          obtain ⟨a5, rfl⟩ : ∃ a5, a5 = aS := ⟨_, rfl⟩
          obtain ⟨c5, rfl⟩ : ∃ c5, c5 = cS := ⟨_, rfl⟩
          obtain ⟨N5, hN5e⟩ : ∃ N5, N5 = N + 1 := ⟨_, rfl⟩
          have HFW5 := Lib.hid (few_more HFW5.out (show N + 1 + 1 ≤ N5 + 1 by omega))
          rw [← hN5e] at HNM5
          have hN5 : N5 ≤ n + 1 := by omega
          have HN5E := Lib.hid hN5e
          have hlt5 : N < N5 := by omega
          have hm5 : m ≤ N5 := by omega
          have hsz5 : w.heap.size ≤ w5.heap.size := HBL5.out.size
          clear ho5 hl5 HLIS4 HNUM4 HOWN4 HBEL4 hr5 HINV HFEW hN5e
          obtain ⟨q1, q2, q3, q4⟩ : (placeR r5.E 0).isSome = true ∧ valueR r5.E 0 = 1000 ∧ r5.E.length = S5.length + 1 ∧ ∀ (i s : Nat), S5[i]? = some s → s ≠ 0 ∧ s < max m (S5.length + 1) := by
            obtain ⟨c5', h1, h2⟩ := HLS5.out
            exact inv_ask HIN5.out h2
          have hV := lval_any w5 w.heap.size (w.heap.size + 1) rv5 r5 0 HLS5.out
          rw [q1, q2] at hV
          have hL := llenR_any w5 w.heap.size (w.heap.size + 1) rv5 r5 HLS5.out
          rw [q3] at hL
          have HV := Lib.hid hV
          have HLn := Lib.hid hL
          have HQ4 := Lib.hid q4
          have hSl5 : S5.length ≤ N5 := by have := HFW5.out.E; omega
          obtain ⟨_, gs, _, hav, has, _, _, hcs⟩ := owns_cells HOW5.out
          have HCS : Hid (∀ (i s : Nat), S5[i]? = some s → w5.cell? ⟨gs, 0 + i, none⟩ = some (.int .i64 (s : Int))) := fun i s hs => hcs i _ (by unfold natsV; rw [List.getElem?_map, hs]; rfl)
          have HAS : Hid (0 < S5.length → a5 = some ⟨gs, 0, none⟩) := fun hp => by
            injection hav with e1 e2 e3
            rw [e1]; exact has hp
          have hfin : ∀ mx : Nat, max m (S5.length + 1) ≤ mx → mx ≤ N5 + 1 → SloAt w (w.heap.size + 1) (w.heap.size + 1 + 1) n (.slice a5 S5.length c5) (.int .i64 (mx : Int)) w5 ∧ n - numN w5 (w.heap.size + 1 + 1) < n - numN wr (w.heap.size + 1 + 1) := fun mx h1 h2 => by
            refine ⟨⟨N5, mx, rv5, r5, S5, rfl, hN5, HLS5.out, HNM5.out, HOW5.out, inv_more HIN5.out mx h1, HBL5.out, few_more HFW5.out (by omega), by omega⟩, ?_⟩
            rw [HNM5.out.numN, HQ.out]
            omega
          have HFIN := Lib.hid hfin
          clear q1 q2 q3 q4 hV hL hav has hcs hfin HBL5 HNM5 HLS5 HIN5 HFW5 HN5E
          have tl : (((S5.length : Int) + 1) != ((S5.length : Int) + 1)) = false := by simp
          rcases Nat.lt_or_ge m (S5.length + 1) with hmm | hmm
          · have hmm' : ¬ ((S5.length : Int) + 1 ≤ (m : Int)) := by omega
            have HFN := Lib.hid (HFIN.out (S5.length + 1) (by omega) (by omega))
            have HQ5 : Hid (∀ (i s : Nat), S5[i]? = some s → s ≠ 0 ∧ s < S5.length + 1) := fun i s hs => by obtain ⟨h1, h2⟩ := HQ4.out i s hs; exact ⟨h1, by omega⟩
            clear HQ4 HFIN
            go_wp2_with fail
            refine HV.out.mono ?_
            rintro e w6 ⟨rfl, rfl⟩
            go_wp2_with fail
            refine HLn.out.mono ?_
            rintro e w6 ⟨rfl, rfl⟩
            go_wp2_with fail
            go_loop [100] (fun i => ∃ k : Nat, k ≤ S5.length ∧ i = .int .i64 (k : Int)) (fun i => S5.length - (intOf i).toNat)
            case atStart => exact ⟨0, by omega, rfl⟩
            case round =>
              obtain ⟨k, hk, rfl⟩ := hrel
              rcases Nat.lt_or_ge k S5.length with hkl | hkl
              · obtain ⟨s, hs⟩ : ∃ s, S5[k]? = some s := ⟨S5[k]'hkl, List.getElem?_eq_getElem hkl⟩
                obtain ⟨s1, s2⟩ := HQ5.out k s hs
                have d := HCS.out k s hs
                rw [Nat.zero_add] at d
                obtain rfl := HAS.out (by omega)
                have hkl' : (k : Int) < S5.length := by omega
                have t1 : ¬ ((s : Int) < 0) := by omega
                have t2 : ¬ ((S5.length : Int) + 1 ≤ (s : Int)) := by omega
                have t3 : ((s : Int) == 0) = false := by simp; omega
                clear hs
                go_wp2_with fail
                go_round
                case rel => exact ⟨k + 1, by omega, by go_num⟩
                case measure => simp [intOf]; omega
              · have hkl' : ¬ ((k : Int) < S5.length) := by omega
                go_wp2_with fail
                go_roundw
                case rel => exact HFN.out.1
                case measure => exact HFN.out.2
          · have hmm' : (S5.length : Int) + 1 ≤ (m : Int) := by omega
            have HFN := Lib.hid (HFIN.out m (by omega) (by omega))
            have HQ5 : Hid (∀ (i s : Nat), S5[i]? = some s → s ≠ 0 ∧ s < m) := fun i s hs => by obtain ⟨h1, h2⟩ := HQ4.out i s hs; exact ⟨h1, by omega⟩
            clear HQ4 HFIN
            go_wp2_with fail
            refine HV.out.mono ?_
            rintro e w6 ⟨rfl, rfl⟩
            go_wp2_with fail
            refine HLn.out.mono ?_
            rintro e w6 ⟨rfl, rfl⟩
            go_wp2_with fail
            go_loop [100] (fun i => ∃ k : Nat, k ≤ S5.length ∧ i = .int .i64 (k : Int)) (fun i => S5.length - (intOf i).toNat)
            case atStart => exact ⟨0, by omega, rfl⟩
            case round =>
              obtain ⟨k, hk, rfl⟩ := hrel
              rcases Nat.lt_or_ge k S5.length with hkl | hkl
              · obtain ⟨s, hs⟩ : ∃ s, S5[k]? = some s := ⟨S5[k]'hkl, List.getElem?_eq_getElem hkl⟩
                obtain ⟨s1, s2⟩ := HQ5.out k s hs
                have d := HCS.out k s hs
                rw [Nat.zero_add] at d
                obtain rfl := HAS.out (by omega)
                have hkl' : (k : Int) < S5.length := by omega
                have t1 : ¬ ((s : Int) < 0) := by omega
                have t2 : ¬ ((m : Int) ≤ (s : Int)) := by omega
                have t3 : ((s : Int) == 0) = false := by simp; omega
                clear hs
                go_wp2_with fail
                go_round
                case rel => exact ⟨k + 1, by omega, by go_num⟩
                case measure => simp [intOf]; omega
              · have hkl' : ¬ ((k : Int) < S5.length) := by omega
                go_wp2_with fail
                go_roundw
                case rel => exact HFN.out.1
                case measure => exact HFN.out.2
        --DONE
      · have hge' : ¬ ((N : Int) < n) := by omega
        have HB := Lib.hid hbel
        clear hlis hnum hown hinv hbel hfew hbn hq HN3 HB3 HL3
        go_wp2_with fail
        refine (known_any _).mono ?_
        rintro e w5 ⟨rfl, hb5⟩
        have HB5 := Lib.hid (HB.out.trans (hb5.mono hsz))
        clear hb5
        go_wp2_with fail
        go_ret
        exact ⟨rfl, HB5.out⟩
end Go.Proofs.Ytlkpdmblhejnhaa
