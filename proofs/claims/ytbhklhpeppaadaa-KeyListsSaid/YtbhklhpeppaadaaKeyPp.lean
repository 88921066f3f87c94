/- Parse, of the program. -/
import Derived.Test.YtbhklhpeppaadaaKeyPs
namespace Go.Proofs.Ytbhklhpeppaadaa
open Go.RowKit
set_option linter.unusedVariables false
set_option linter.unusedSimpArgs false
open ShaW Sha

theorem or16 (x y : Nat) (hx : x < 16) (hy : y < 16) : bits BinOp.or IntKind.i64 ((x : Int) * 16) (y : Int) = (x : Int) * 16 + y := by
  have h : ∀ a b : Fin 16, bits BinOp.or IntKind.i64 ((a.val : Int) * 16) (b.val : Int) = (a.val : Int) * 16 + b.val := by decide +kernel
  exact h ⟨x, hx⟩ ⟨y, hy⟩
/-- what Parse returns -/
def ParsePost (w : World) (l : List UInt8) (e : Ending) (w' : World) : Prop :=
  ∃ k, ∃ er : Int, e = .returned (.tuple #[keyV k, .int .i64 er]) ∧ Below w.heap.size w w' ∧
    ((l.length = 64 ∧ okL l 64 ∧ k = unK l ∧ er = 0) ∨ (¬ (l.length = 64 ∧ okL l 64) ∧ k = (fun _ => 0) ∧ er = 2))
theorem zero_key : (#[.int .u8 0, .int .u8 0, .int .u8 0, .int .u8 0, .int .u8 0, .int .u8 0, .int .u8 0, .int .u8 0, .int .u8 0, .int .u8 0, .int .u8 0, .int .u8 0, .int .u8 0, .int .u8 0, .int .u8 0, .int .u8 0, .int .u8 0, .int .u8 0, .int .u8 0, .int .u8 0, .int .u8 0, .int .u8 0, .int .u8 0, .int .u8 0, .int .u8 0, .int .u8 0, .int .u8 0, .int .u8 0, .int .u8 0, .int .u8 0, .int .u8 0, .int .u8 0] : Array Value) = (bytesOf 32 (fun _ => 0)).toArray := by kernel_rfl
/-- the key that has been read up to n -/
def upK (l : List UInt8) (n : Nat) (j : Nat) : UInt8 := if j < n then unK l j else 0
theorem upK_zero (l : List UInt8) : upK l 0 = fun _ => 0 := by funext j; simp [upK]
theorem upK_step (l : List UInt8) (n : Nat) : (fun j => if j = n then unK l n else upK l n j) = upK l (n + 1) := by
  funext j
  unfold upK
  by_cases h : j = n
  · subst h; rw [if_pos rfl, if_pos (by omega)]
  · rw [if_neg h]
    by_cases h2 : j < n
    · rw [if_pos h2, if_pos (by omega)]
    · rw [if_neg h2, if_neg (by omega)]
theorem upK_full (l : List UInt8) : (bytesOf 32 (upK l 32)) = bytesOf 32 (unK l) := by
  unfold bytesOf
  refine List.map_congr_left (fun j hj => ?_)
  have := List.mem_range.1 hj
  unfold upK
  rw [if_pos this]

set_option maxRecDepth 100000 in
set_option maxHeartbeats 2000000 in
theorem parse_any (w : World) (s : ByteArray) (hs : s.data.toList.length ≤ 1048576) :
    Calls Try.prog 14 #[.string s] w (ParsePost w s.data.toList) := by
  have hsz : s.size = s.data.toList.length := by cases s; rfl
  have hix := fun i hi w => str_index s i hi w
  obtain ⟨l, hl⟩ : ∃ l, s.data.toList = l := ⟨_, rfl⟩
  rw [hl] at hs hsz hix ⊢
  have HIX := Lib.hid hix
  have HSZ := Lib.hid hsz
  clear hl hix hsz
  by_cases hn : l.length = 64
  · have h64 : ((s.size : Int) != 64) = false := by rw [bne_eq_false_iff_eq, HSZ.out, hn]; rfl
    have HN := Lib.hid hn
    clear hn
    go_enter Try.func14, Try.ntmps14
    go_upto_region 2 with (fail)
    generalize hwa : World.alloc (World.alloc w _) _ = wa
    have hb0 : Below w.heap.size w wa := by rw [← hwa]; exact ((Below.refl _ _).alloc (Nat.le_refl _) _).alloc (by simp) _
    have hk2 : Blk wa w.heap.size 25 (bytesOf 32 (fun _ => 0)).toArray := by rw [← hwa, ← zero_key]; exact (Blk.new w _ _).alloc _
    have hk4 : Blk wa (w.heap.size + 1) 25 (bytesOf 32 (fun _ => 0)).toArray := by rw [← hwa, ← zero_key]; exact heap_alloc_at _ _ _ (by simp)
    have HB0 := Lib.hid hb0
    have HK2 := Lib.hid hk2
    have HK4 := Lib.hid hk4
    clear hwa hb0 hk2 hk4
    go_wp2_with fail
    go_loopw [12] (fun i wr => ∃ n : Nat, n ≤ 32 ∧ i = .int .i64 (n : Int) ∧ okL l (2 * n) ∧ Below w.heap.size w wr ∧ Blk wr w.heap.size 25 (bytesOf 32 (fun _ => 0)).toArray ∧ Blk wr (w.heap.size + 1) 25 (bytesOf 32 (upK l n)).toArray) (fun i _ => 32 - (intOf i).toNat)
    case atStart => exact ⟨0, by omega, rfl, fun i hi => by omega, HB0.out, HK2.out, by rw [upK_zero]; exact HK4.out⟩
    case round =>
      obtain ⟨n, hn, rfl, hok, hbr, hr2, hr4⟩ := hrel
      have HOK := Lib.hid hok
      have HBR := Lib.hid hbr
      have HR2 := Lib.hid hr2
      have HR4 := Lib.hid hr4
      clear hok hbr hr2 hr4
      rcases Nat.lt_or_ge n 32 with hlt | hge
      · skip
        have hlt' : (n : Int) < 32 := by omega
        have hn0 : (0 : Int) ≤ n := by omega
        have q1 : IntKind.i64.wrap (2 * (n : Int)) = 2 * (n : Int) := IntWalk.i64_in _ (by omega)
        have q2 : IntKind.i64.wrap (2 * (n : Int) + 1) = 2 * (n : Int) + 1 := IntWalk.i64_in _ (by omega)
        have x1 := fun w => HIX.out (2 * n) (by have := HN.out; omega) w
        have x2 := fun w => HIX.out (2 * n + 1) (by have := HN.out; omega) w
        rw [show ((2 * n : Nat) : Int) = 2 * (n : Int) by omega] at x1
        rw [show ((2 * n + 1 : Nat) : Int) = 2 * (n : Int) + 1 by omega] at x2
        obtain ⟨bx, hbx⟩ : ∃ b, l.getD (2 * n) 0 = b := ⟨_, rfl⟩
        obtain ⟨by_, hby⟩ : ∃ b, l.getD (2 * n + 1) 0 = b := ⟨_, rfl⟩
        rw [hbx] at x1
        rw [hby] at x2
        have HBX := Lib.hid hbx
        have HBY := Lib.hid hby
        clear hbx hby
        go_wp2_with fail
        go_quiet ((go_at_call 27; exact Calls.quiet_of_same (idx_any _ _ _)))
        clear x1 x2 q1 q2
        generalize hwq : World.drewN wr _ = wq
        have hqr : Below wr.heap.size wr wq := by rw [← hwq]; exact below_drewN (Below.refl _ _) _
        have hb1 : Below w.heap.size w wq := by rw [← hwq]; exact below_drewN HBR.out _
        have hr2 := HR2.out.below hqr HR2.out.lt
        have hr4 := HR4.out.below hqr HR4.out.lt
        have HBQ := Lib.hid hb1
        have HQ2 := Lib.hid hr2
        have HQ4 := Lib.hid hr4
        clear hwq hqr hb1 hr2 hr4
        cases hx : unD bx with
        | none =>
          have hnot : ¬ (l.length = 64 ∧ okL l 64) := fun h => by
            have := h.2 (2 * n) (by omega)
            rw [HBX.out, hx] at this
            cases this
          rw [dI_none hx]
          go_wp2_with (refine wpList_store_rowTo rfl 25 (.tmp 2) (.tmp 32) rfl rfl w.heap.size _ rfl rfl _ _ HQ2.out (by kernel_rfl) (by rw [keyV_size]; kernel_rfl) (by kernel_rfl) ?_)
          refine bodyPost_ret (results_cell_tmp rfl _ _ w.heap.size _ _ (0, 0) _ rfl (setRow_same _ _ _ _ _ HQ2.out) Try.underlying25 rfl (by kernel_rfl)) rfl ?_
          rw [zero_key]
          exact ⟨_, _, rfl, below_setRow HBQ.out (Nat.le_refl _) _, .inr ⟨hnot, rfl, rfl⟩⟩
        | some vx =>
          cases hy : unD by_ with
          | none =>
            have hnot : ¬ (l.length = 64 ∧ okL l 64) := fun h => by
              have := h.2 (2 * n + 1) (by omega)
              rw [HBY.out, hy] at this
              cases this
            rw [dI_none hy, dI_some hx]
            go_wp2_with (refine wpList_store_rowTo rfl 25 (.tmp 2) (.tmp 32) rfl rfl w.heap.size _ rfl rfl _ _ HQ2.out (by kernel_rfl) (by rw [keyV_size]; kernel_rfl) (by kernel_rfl) ?_)
            refine bodyPost_ret (results_cell_tmp rfl _ _ w.heap.size _ _ (0, 0) _ rfl (setRow_same _ _ _ _ _ HQ2.out) Try.underlying25 rfl (by kernel_rfl)) rfl ?_
            rw [zero_key]
            exact ⟨_, _, rfl, below_setRow HBQ.out (Nat.le_refl _) _, .inr ⟨hnot, rfl, rfl⟩⟩
          | some vy =>
            have hbx := HBX.out
            have hby := HBY.out
            rw [← hbx] at hx
            rw [← hby] at hy
            have e3 := unK_toNat hx hy
            have a1 := unD_lt hx
            have a2 := unD_lt hy
            have hok2 : okL l (2 * (n + 1)) := okL_step HOK.out (by rw [hx]; rfl) (by rw [hy]; rfl)
            rw [hbx] at hx
            rw [hby] at hy
            rw [dI_some hx, dI_some hy]
            have HOK2 := Lib.hid hok2
            have E3 := Lib.hid e3
            have b1 : bits BinOp.or IntKind.i64 ((vx : Int) * 16) (vy : Int) = (vx : Int) * 16 + vy := or16 vx vy a1 a2
            obtain ⟨vo, c4⟩ : ∃ vo, wq.cell? ⟨w.heap.size + 1, n, none⟩ = some vo := Option.isSome_iff_exists.1 <| by rw [HQ4.out.cell, show (bytesOf 32 (upK l n)).toArray[n]? = some _ from List.getElem?_toArray.trans (bytesOf_get _ hlt)]; rfl
            have f4 := HQ4.out.frozen n
            clear hbx hby hx hy e3 hok2
            go_wp2_with fail
            go_roundw
            case rel =>
              refine ⟨n + 1, by omega, by go_num, HOK2.out, HBQ.out.setCell (by simp) _, HQ2.out.far (by simp) _, ?_⟩
              have h := HQ4.out.set_ n (.int .u8 ((unK l n).toNat : Int))
              rw [bytesOf_set _ _ _ _ hlt, upK_step] at h
              rw [show (vx : Int) * 16 + vy = ((unK l n).toNat : Int) by rw [E3.out]; omega]
              exact h
            case measure => simp [intOf]; omega
      · have hge' : ¬ (n : Int) < 32 := by omega
        obtain rfl : n = 32 := by omega
        have r4 : wr.rangeAt (w.heap.size + 1) 0 (bytesOf 32 (upK l 32)) := fun j v hv => by rw [Nat.zero_add, HR4.out.cell]; exact List.getElem?_toArray.trans hv
        have R4 := Lib.hid r4
        clear r4
        go_wp2_with (first
          | (refine wpList_load_mid rfl 25 (.tmp 4) rfl (w.heap.size + 1) 0 rfl (bytesOf 32 (upK l 32)) _ R4.out Try.underlying25 rfl (by rw [bytesOf_length]; kernel_rfl) ?_)
          | (refine wpList_store_rowTo rfl 25 (.tmp 2) (.tmp 41) rfl rfl w.heap.size (bytesOf 32 (upK l 32)).toArray rfl rfl _ _ HR2.out (by rw [keyV_size]; kernel_rfl) (by rw [keyV_size, keyV_size]) (keyV_one _) ?_))
        refine bodyPost_ret (results_cell_tmp rfl _ _ w.heap.size _ (bytesOf 32 (upK l 32)).toArray (0, 0) _ rfl (setRow_same _ _ _ _ _ HR2.out) Try.underlying25 rfl (by rw [keyV_size]; kernel_rfl)) rfl ?_
        rw [upK_full]
        exact ⟨_, _, rfl, below_setRow HBR.out (Nat.le_refl _) _, .inl ⟨HN.out, HOK.out, rfl, rfl⟩⟩
  · have h64 : ((s.size : Int) != 64) = true := by rw [bne_iff_ne, HSZ.out]; omega
    have HN := Lib.hid hn
    clear hn
    go_enter Try.func14, Try.ntmps14
    go_upto_region 2 with (fail)
    generalize hwa : World.alloc (World.alloc w _) _ = wa
    have hb0 : Below w.heap.size w wa := by rw [← hwa]; exact ((Below.refl _ _).alloc (Nat.le_refl _) _).alloc (by simp) _
    have hk2 : Blk wa w.heap.size 25 (bytesOf 32 (fun _ => 0)).toArray := by rw [← hwa, ← zero_key]; exact (Blk.new w _ _).alloc _
    have hk4 : Blk wa (w.heap.size + 1) 25 (bytesOf 32 (fun _ => 0)).toArray := by rw [← hwa, ← zero_key]; exact heap_alloc_at _ _ _ (by simp)
    have HB0 := Lib.hid hb0
    have HK2 := Lib.hid hk2
    have HK4 := Lib.hid hk4
    clear hwa hb0 hk2 hk4
    go_wp2_with (refine wpList_store_rowTo rfl 25 (.tmp 2) (.tmp 11) rfl rfl w.heap.size _ rfl rfl _ _ HK2.out (by kernel_rfl) (by rw [keyV_size]; kernel_rfl) (by kernel_rfl) ?_)
    refine bodyPost_ret (results_cell_tmp rfl _ _ w.heap.size _ _ (0, 0) _ rfl (setRow_same _ _ _ _ _ HK2.out) Try.underlying25 rfl (by kernel_rfl)) rfl ?_
    rw [zero_key]
    exact ⟨_, _, rfl, below_setRow HB0.out (Nat.le_refl _) _, .inr ⟨fun h => HN.out h.1, rfl, rfl⟩⟩
end Go.Proofs.Ytbhklhpeppaadaa
