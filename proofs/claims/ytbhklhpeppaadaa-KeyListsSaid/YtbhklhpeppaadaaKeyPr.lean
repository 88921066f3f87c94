/- Parse, of the reference. -/
import Derived.Test.YtbhklhpeppaadaaKeyPp
namespace Go.Proofs.Ytbhklhpeppaadaa
open Go.RowKit
set_option linter.unusedVariables false
set_option linter.unusedSimpArgs false
open ShaW Sha

/-- what Unhex returns -/
def UnPost (w : World) (l : List UInt8) (e : Ending) (w' : World) : Prop :=
  Below w.heap.size w w' ∧ ((¬ okL l (2 * (l.length / 2)) ∧ e = .returned (.tuple #[.slice none 0 0, .bool false])) ∨
    (okL l (2 * (l.length / 2)) ∧ ∃ A c, e = .returned (.tuple #[.slice A (l.length / 2) c, .bool (decide (l.length % 2 = 0))]) ∧ l.length / 2 ≤ c ∧ w'.ownsRow w.heap.size 5 1 (.slice A (l.length / 2) c) (l.length / 2) (bytesOf (l.length / 2) (unK l))))
theorem bytesOf_snoc' (n : Nat) (f : Nat → UInt8) : bytesOf (n + 1) f = bytesOf n f ++ [.int .u8 ((f n).toNat : Int)] := by
  unfold bytesOf; rw [List.range_succ, List.map_append]; rfl
theorem own_form' {w : World} {base n : Nat} {e : TypeId} {v : Value} {xs : List Value} {size : Nat} (h : w.ownsRow base e size v n xs) : ∃ A c, v = .slice A n c ∧ n ≤ c := by
  rcases h.2 with ⟨rfl, rfl⟩ | ⟨g', cap, cur, rfl, _, _, h3, _⟩
  · exact ⟨_, _, rfl, Nat.le_refl _⟩
  · exact ⟨_, _, rfl, h3⟩

set_option maxRecDepth 100000 in
set_option maxHeartbeats 2000000 in
theorem unhex_any (w : World) (s : ByteArray) (hs : s.data.toList.length ≤ 1048576) :
    Calls Try.prog 28 #[.string s] w (UnPost w s.data.toList) := by
  obtain ⟨i0, hi0, hz0, hz1, hz2⟩ := info_parts byte_info
  have hsz : s.size = s.data.toList.length := by cases s; rfl
  have hix := fun i hi w => str_index s i hi w
  obtain ⟨l, hl⟩ : ∃ l, s.data.toList = l := ⟨_, rfl⟩
  rw [hl] at hs hsz hix ⊢
  obtain ⟨m, hm⟩ : ∃ m, l.length = m := ⟨_, rfl⟩
  rw [hm] at hs hsz hix
  obtain ⟨z, hz⟩ : ∃ z, s.size = z := ⟨_, rfl⟩
  have HIX := Lib.hid hix
  have HM := Lib.hid hm
  have hzm : z = m := by omega
  subst hzm
  have HSZ := Lib.hid hz
  clear hl hix hsz hm hz
  go_enter Try.func28, Try.ntmps28
  go_wp2_with fail
  go_loopw [4, 5] (fun v i wr => ∃ n : Nat, 2 * n ≤ z ∧ i = .int .i64 (2 * (n : Int)) ∧ okL l (2 * n) ∧ Below w.heap.size w wr ∧ wr.ownsRow w.heap.size 5 1 v n (bytesOf n (unK l))) (fun _ i _ => z - (intOf i).toNat)
  case atStart => exact ⟨0, by omega, rfl, fun i hi => by omega, Below.refl _ _, World.ownsRow_nil _ _ _ _⟩
  case round =>
    obtain ⟨n, hn, rfl, hok, hbr, how⟩ := hrel
    have HOK := Lib.hid hok
    have HBR := Lib.hid hbr
    have HOW := Lib.hid how
    have hzr := hbr.size
    clear hok hbr how
    have q2 : IntKind.i64.wrap (2 * (n : Int) + 1) = 2 * (n : Int) + 1 := IntWalk.i64_in _ (by omega)
    have hn0 : (0 : Int) ≤ 2 * (n : Int) := by omega
    rcases Nat.lt_or_ge (2 * n + 1) z with hlt | hge
    · have hlt' : 2 * (n : Int) + 1 < (s.size : Int) := by rw [HSZ.out]; omega
      have x1 := fun w => HIX.out (2 * n) (by omega) w
      have x2 := fun w => HIX.out (2 * n + 1) (by omega) w
      rw [show ((2 * n : Nat) : Int) = 2 * (n : Int) by omega] at x1
      rw [show ((2 * n + 1 : Nat) : Int) = 2 * (n : Int) + 1 by omega] at x2
      obtain ⟨bx, hbx⟩ : ∃ b, l.getD (2 * n) 0 = b := ⟨_, rfl⟩
      obtain ⟨by_, hby⟩ : ∃ b, l.getD (2 * n + 1) 0 = b := ⟨_, rfl⟩
      rw [hbx] at x1
      rw [hby] at x2
      have HBX := Lib.hid hbx
      have HBY := Lib.hid hby
      clear hbx hby
      go_wp2_with fail
      go_quiet ((go_at_call 39; exact Calls.quiet_of_same (digit_any _ _ _)))
      clear x1 x2 q2
      generalize hwq : World.drewN wr _ = wq
      have hqr : Below wr.heap.size wr wq := by rw [← hwq]; exact below_drewN (Below.refl _ _) _
      have hb1 : Below w.heap.size w wq := by rw [← hwq]; exact below_drewN HBR.out _
      have hr2 := owns_below HOW.out hqr
      have HBQ := Lib.hid hb1
      have HQW := Lib.hid hr2
      have hzq := hb1.size
      clear hwq hqr hb1 hr2
      cases hx : unD bx with
      | none =>
        have hnot : ¬ okL l (2 * (l.length / 2)) := fun h => by
          have := h (2 * n) (by rw [HM.out]; omega)
          rw [HBX.out, hx] at this
          cases this
        have HNOT := Lib.hid hnot
        rw [dI_none hx]
        clear hnot hx
        go_wp2_with fail
        go_ret2
        exact ⟨HBQ.out, .inl ⟨HNOT.out, rfl⟩⟩
      | some vx =>
        cases hy : unD by_ with
        | none =>
          have hnot : ¬ okL l (2 * (l.length / 2)) := fun h => by
            have := h (2 * n + 1) (by rw [HM.out]; omega)
            rw [HBY.out, hy] at this
            cases this
          have HNOT := Lib.hid hnot
          rw [dI_none hy, dI_some hx]
          clear hnot hx hy
          go_wp2_with fail
          go_ret2
          exact ⟨HBQ.out, .inl ⟨HNOT.out, rfl⟩⟩
        | some vy =>
          have hbx := HBX.out
          have hby := HBY.out
          rw [← hbx] at hx
          rw [← hby] at hy
          have e3 := unK_toNat hx hy
          have a1 := unD_lt hx
          have a2 := unD_lt hy
          have hok2 : okL l (2 * (n + 1)) := okL_step HOK.out (by rw [hx]; rfl) (by rw [hy]; rfl)
          rw [hbx] at hx
          rw [hby] at hy
          rw [dI_some hx, dI_some hy]
          have HOK2 := Lib.hid hok2
          have E3 := Lib.hid e3
          clear hbx hby hx hy e3 hok2
          go_wp2_with (first
            | (at_builtin
               change wpList _ _ _ _ _ _
               refine app_own rfl (.tmp 30) (.tmp 36) _ rfl w.heap.size 5 i0 _ 1 1 Try.underlying22 hi0 hz0 hz1 hz2 rfl (by omega) _ n _ rfl HQW.out [_] _ rfl rfl (by simp [Value.oneCell']) (by omega) (by omega) hzq ?_
               intro v2 w4 ho2 hg2
               have hb2 : Below w.heap.size w w4 := grownBy_below HBQ.out HQW.out hg2 hzq (Nat.le_refl _)
               have HO2 := Lib.hid ho2
               have HB2 := Lib.hid hb2
               clear ho2 hg2 hb2))
          go_roundw
          case rel =>
            refine ⟨n + 1, by omega, by (congr 1 <;> omega), HOK2.out, HB2.out, ?_⟩
            have h := HO2.out
            rw [show (vx : Int) * 16 + vy = ((unK l n).toNat : Int) by rw [E3.out]; omega, ← bytesOf_snoc'] at h
            exact h
          case measure => simp [intOf]; omega
    · have hge' : ¬ 2 * (n : Int) + 1 < (s.size : Int) := by rw [HSZ.out]; omega
      obtain ⟨A, c, rfl, hnc⟩ := own_form' HOW.out
      go_wp2_with fail
      go_ret2
      have hn2 : n = l.length / 2 := by rw [HM.out]; omega
      subst hn2
      have eb : ((s.size : Int) % 2 == 0) = decide (l.length % 2 = 0) := by
        rw [Bool.eq_iff_iff, beq_iff_eq, decide_eq_true_eq, HSZ.out, HM.out]; omega
      rw [eb]
      exact ⟨HBR.out, .inr ⟨HOK.out, A, c, rfl, hnc, HOW.out⟩⟩

set_option maxRecDepth 100000 in
set_option maxHeartbeats 2000000 in
theorem rparse_any (w : World) (s : ByteArray) (hs : s.data.toList.length ≤ 1048576) :
    Calls Try.prog 15 #[.string s] w (ParsePost w s.data.toList) := by
  have HUN := Lib.hid (fun w => unhex_any w s hs)
  obtain ⟨l, hl⟩ : ∃ l, s.data.toList = l := ⟨_, rfl⟩
  rw [hl] at HUN hs ⊢
  clear hl
  go_enter Try.func15, Try.ntmps15
  go_wp2_with fail
  generalize hwa : World.alloc w _ = wa
  have hb0 : Below w.heap.size w wa := by rw [← hwa]; exact (Below.refl _ _).alloc (Nat.le_refl _) _
  have hk2 : Blk wa w.heap.size 25 (bytesOf 32 (fun _ => 0)).toArray := by rw [← hwa, ← zero_key]; exact Blk.new w _ _
  have HB0 := Lib.hid hb0
  have HK2 := Lib.hid hk2
  have hz0 := hb0.size
  clear hwa hb0 hk2
  refine (HUN.out wa).mono ?_
  rintro e w1 ⟨hb1, ⟨hno, rfl⟩ | ⟨hok, A, c, rfl, hnc, how⟩⟩
  · have HNO := Lib.hid hno
    have HB1 := Lib.hid (HB0.out.trans (hb1.mono hz0))
    have HK1 := Lib.hid (HK2.out.below hb1 HK2.out.lt)
    clear hno hb1
    go_wp2_with (refine wpList_store_rowTo rfl 25 (.tmp 2) (.tmp 20) rfl rfl w.heap.size _ rfl rfl _ _ HK1.out (by kernel_rfl) (by rw [keyV_size]; kernel_rfl) (by kernel_rfl) ?_)
    refine bodyPost_ret (results_cell_tmp rfl _ _ w.heap.size _ _ (0, 0) _ rfl (setRow_same _ _ _ _ _ HK1.out) Try.underlying25 rfl (by kernel_rfl)) rfl ?_
    rw [zero_key]
    refine ⟨_, _, rfl, below_setRow HB1.out (Nat.le_refl _) _, .inr ⟨fun h => HNO.out ?_, rfl, rfl⟩⟩
    rw [h.1]; exact h.2
  · have HOK := Lib.hid hok
    have HOW := Lib.hid how
    have HB1 := Lib.hid (HB0.out.trans (hb1.mono hz0))
    have HK1 := Lib.hid (HK2.out.below hb1 HK2.out.lt)
    have hz1 := HB1.out.size
    have hz01 := hb1.size
    clear hok how hb1
    by_cases hbad : l.length % 2 = 0 ∧ l.length / 2 = 32
    · obtain ⟨h1, h2⟩ := hbad
      have h64 : l.length = 64 := by omega
      rw [h2] at hnc
      rw [h2] at HOW HOK
      rw [decide_eq_true h1]
      rw [h2]
      obtain ⟨g, hg⟩ : ∃ g, A = some ⟨g, 0, none⟩ := by
        rcases HOW.out.2 with ⟨h, h0⟩ | ⟨g, cap, cur, h, _⟩
        · omega
        · injection h with e1
          exact ⟨g, e1⟩
      subst hg
      have HCE : Hid (∀ j, j < 32 → w1.cell? ⟨g, j, none⟩ = some (.int .u8 ((unK l j).toNat : Int))) := fun j hj => by
        have := HOW.out.cells (g := g) rfl j _ (bytesOf_get (unK l) hj)
        rwa [add_flat, Nat.zero_add] at this
      have H64 := Lib.hid h64
      clear h1 h2 h64
      go_wp2_with fail
      generalize hwb : World.alloc w1 _ = wb
      have hbb : Below w1.heap.size w1 wb := by rw [← hwb]; exact (Below.refl _ _).alloc (Nat.le_refl _) _
      have hk6 : Blk wb w1.heap.size 25 (bytesOf 32 (fun _ => 0)).toArray := by rw [← hwb, ← zero_key]; exact Blk.new w1 _ _
      have HB2 := Lib.hid (HB1.out.trans (hbb.mono hz1))
      have HK6 := Lib.hid hk6
      have HK2b := Lib.hid (HK1.out.below hbb HK1.out.lt)
      have HCB : Hid (∀ j, j < 32 → wb.cell? ⟨g, j, none⟩ = some (.int .u8 ((unK l j).toNat : Int))) := fun j hj => (hbb.cell (p := ⟨g, j, none⟩) (World.block_lt_of_cell? w1 _ (HCE.out j hj))).trans (HCE.out j hj)
      have hgl : g < w1.heap.size := World.block_lt_of_cell? w1 _ (HCE.out 0 (by omega))
      have hwl : w.heap.size < w1.heap.size := HK1.out.lt
      clear hwb hbb hk6
      go_loopw [21] (fun i wr => ∃ n : Nat, n ≤ 32 ∧ i = .int .i64 (n : Int) ∧ Below w.heap.size w wr ∧ (∀ j, j < 32 → wr.cell? ⟨g, j, none⟩ = some (.int .u8 ((unK l j).toNat : Int))) ∧ Blk wr w.heap.size 25 (bytesOf 32 (fun _ => 0)).toArray ∧ Blk wr w1.heap.size 25 (bytesOf 32 (upK l n)).toArray) (fun i _ => 32 - (intOf i).toNat)
      case atStart => exact ⟨0, by omega, rfl, HB2.out, HCB.out, HK2b.out, by rw [upK_zero]; exact HK6.out⟩
      case round =>
        obtain ⟨n, hn, rfl, hbr, hce, hr2, hr6⟩ := hrel
        have HBR := Lib.hid hbr
        have HR2 := Lib.hid hr2
        have HR6 := Lib.hid hr6
        have HCR := Lib.hid hce
        clear hbr hr2 hr6 hce
        rcases Nat.lt_or_ge n 32 with hlt | hge
        · have hlt' : (n : Int) < 32 := by omega
          have hn0 : (0 : Int) ≤ n := by omega
          have c1 := HCR.out n hlt
          have f6 := HR6.out.frozen n
          obtain ⟨vo, c6⟩ : ∃ vo, wr.cell? ⟨w1.heap.size, n, none⟩ = some vo := ⟨_, by rw [HR6.out.cell]; exact List.getElem?_toArray.trans (bytesOf_get _ hlt)⟩
          go_wp2_with fail
          go_roundw
          case rel =>
            refine ⟨n + 1, by omega, by go_num, HBR.out.setCell (by simp; omega) _, fun j hj => ?_, HR2.out.far (by simp; omega) _, ?_⟩
            · rw [World.cell?_setCell_other _ _ _ _ (by intro e; injection e with e; omega)]
              exact HCR.out j hj
            · have h := HR6.out.set_ n (.int .u8 ((unK l n).toNat : Int))
              rw [bytesOf_set _ _ _ _ hlt, upK_step] at h
              exact h
          case measure => simp [intOf]; omega
        · have hge' : ¬ (n : Int) < 32 := by omega
          obtain rfl : n = 32 := by omega
          have r6 : wr.rangeAt w1.heap.size 0 (bytesOf 32 (upK l 32)) := fun j v hv => by rw [Nat.zero_add, HR6.out.cell]; exact List.getElem?_toArray.trans hv
          have R6 := Lib.hid r6
          clear r6
          go_wp2_with (first
            | (refine wpList_load_mid rfl 25 (.tmp 6) rfl w1.heap.size 0 rfl (bytesOf 32 (upK l 32)) _ R6.out Try.underlying25 rfl (by rw [bytesOf_length]; kernel_rfl) ?_)
            | (refine wpList_store_rowTo rfl 25 (.tmp 2) (.tmp 31) rfl rfl w.heap.size (bytesOf 32 (upK l 32)).toArray rfl rfl _ _ HR2.out (by rw [keyV_size]; kernel_rfl) (by rw [keyV_size, keyV_size]) (keyV_one _) ?_))
          refine bodyPost_ret (results_cell_tmp rfl _ _ w.heap.size _ (bytesOf 32 (upK l 32)).toArray (0, 0) _ rfl (setRow_same _ _ _ _ _ HR2.out) Try.underlying25 rfl (by rw [keyV_size]; kernel_rfl)) rfl ?_
          rw [upK_full]
          exact ⟨_, _, rfl, below_setRow HBR.out (Nat.le_refl _) _, .inl ⟨H64.out, HOK.out, rfl, rfl⟩⟩
    · have hnot : ¬ (l.length = 64 ∧ okL l 64) := fun h => hbad ⟨by omega, by omega⟩
      have HNOT := Lib.hid hnot
      obtain ⟨k, hk⟩ : ∃ k, l.length / 2 = k := ⟨_, rfl⟩
      have hkk : l.length % 2 = 0 → k ≠ 32 := fun h1 h2 => hbad ⟨h1, by omega⟩
      rw [hk]
      clear hnot hbad hk hnc HOW HOK HUN
      by_cases h1 : l.length % 2 = 0
      · have h2 : ((k : Int) != 32) = true := by rw [bne_iff_ne]; have := hkk h1; omega
        rw [decide_eq_true h1]
        go_wp2_with (refine wpList_store_rowTo rfl 25 (.tmp 2) (.tmp 20) rfl rfl w.heap.size _ rfl rfl _ _ HK1.out (by kernel_rfl) (by rw [keyV_size]; kernel_rfl) (by kernel_rfl) ?_)
        refine bodyPost_ret (results_cell_tmp rfl _ _ w.heap.size _ _ (0, 0) _ rfl (setRow_same _ _ _ _ _ HK1.out) Try.underlying25 rfl (by kernel_rfl)) rfl ?_
        rw [zero_key]
        exact ⟨_, _, rfl, below_setRow HB1.out (Nat.le_refl _) _, .inr ⟨HNOT.out, rfl, rfl⟩⟩
      · rw [decide_eq_false h1]
        go_wp2_with (refine wpList_store_rowTo rfl 25 (.tmp 2) (.tmp 20) rfl rfl w.heap.size _ rfl rfl _ _ HK1.out (by kernel_rfl) (by rw [keyV_size]; kernel_rfl) (by kernel_rfl) ?_)
        refine bodyPost_ret (results_cell_tmp rfl _ _ w.heap.size _ _ (0, 0) _ rfl (setRow_same _ _ _ _ _ HK1.out) Try.underlying25 rfl (by kernel_rfl)) rfl ?_
        rw [zero_key]
        exact ⟨_, _, rfl, below_setRow HB1.out (Nat.le_refl _) _, .inr ⟨HNOT.out, rfl, rfl⟩⟩
end Go.Proofs.Ytbhklhpeppaadaa
