/- near; hashes and roots. -/
import Derived.Test.YtnhggaghidbniaaBlkY
import Derived.Test.YtnhggaghidbniaaMerW3
import Derived.Test.YtnhggaghidbniaaPlace
namespace Go.Proofs.Ytnhggaghidbniaa
open Go.RowKit
set_option linter.unusedVariables false
set_option linter.unusedSimpArgs false
open Wir ShaW Sha

/-- the hash of a header -/
def hashK (x : Hd) : Ky := sha (headerB x).length (fun j => (headerB x).getD j 0)

set_option maxRecDepth 100000 in
set_option maxHeartbeats 4000000 in
attribute [local go_sem ↓] wp_load_hd in
theorem bhash_any (w : World) (x : Hd) (hx : x.fits) :
    Calls Try.prog 20 #[hdV x] w fun e w' => e = .returned (keyV (hashK x)) ∧ Below w.heap.size w w' := by
  obtain ⟨cx, hcx⟩ : ∃ cx, (hdCells x).toArray = cx := ⟨_, rfl⟩
  show Calls _ _ #[.agg (hdCells x).toArray] _ _
  rw [hcx]
  have HCX := Lib.hid hcx
  have HX := Lib.hid hx
  clear hcx hx
  go_enter Try.func20, Try.ntmps20
  go_upto_region 1 with (fail)
  generalize hw0 : World.alloc w _ = wa
  have hb0 : Below w.heap.size w wa := by rw [← hw0]; exact (Below.refl _ _).alloc (Nat.le_refl _) _
  have hk0 : Blk wa w.heap.size 25 (hdCells x).toArray := by rw [← hw0, HCX.out]; exact heap_alloc_new _ _
  generalize hw1 : World.alloc wa _ = w1
  have hr0 : w1.rowIs wa.heap.size 23 32 (fun _ => .int .u8 0) := by rw [← hw1]; exact (zero_row wa 23 _ rfl _ rfl)
  have hb1 : Below wa.heap.size wa w1 := by rw [← hw1]; exact (Below.refl _ _).alloc (Nat.le_refl _) _
  have hs1 : wa.heap.size = w.heap.size + 1 := by rw [← hw0]; simp
  obtain ⟨old, hkr, hold⟩ := ret_row hr0
  have hkr : Blk w1 wa.heap.size 23 old := hkr
  have hk1 := hk0.below hb1 hk0.lt
  obtain ⟨g, hg⟩ : ∃ g, w.heap.size = g := ⟨_, rfl⟩
  obtain ⟨gr, hgr⟩ : ∃ gr, wa.heap.size = gr := ⟨_, rfl⟩
  have HB1 : Hid (Below w.heap.size w w1) := Lib.hid (hb0.trans (hb1.mono hb0.size))
  have HGR : Hid (w.heap.size ≤ gr) := Lib.hid (by omega)
  rw [hg] at hk1
  rw [hgr] at hkr
  try simp only [World.heap_alloc_size] 
  try rw [hgr]
  try rw [show w.heap.size + 1 = gr by omega]
  try rw [show (⟨w.heap.size, 0, none⟩ : Addr) = ⟨g, 0, none⟩ by rw [hg]]
  have r1 := hd_range hk1
  have q1 := aggOk_mk r1 (hdCells_len x)
  have q2 := loadN_eq r1 (hdCells_len x)
  have HKR := Lib.hid hkr
  clear hw0 hw1 hb0 hk0 hr0 hb1 hs1 hkr hk1 hg hgr r1
  go_wp2_with fail
  refine (bheader_any w1 x HX.out).mono ?_
  rintro e w2 ⟨v2, rfl, hb2, ho2⟩
  obtain ⟨A2, c2, he2⟩ := own_form (show w2.ownsRow w1.heap.size 5 1 v2 _ _ from ho2)
  subst he2
  have hsee := ho2.see
  obtain ⟨A3, c3, he3, _, _, hrd⟩ := hsee
  injection he3 with e1 e2 e3
  subst e1 e3
  rw [bytesL_of] at hrd
  obtain ⟨hl, hhl⟩ : ∃ hl, (headerB x).length = hl := ⟨_, rfl⟩
  have hle : hl ≤ 1099511627776 := by have := headerB_le HX.out; omega
  rw [hhl] at hrd ⊢
  have HRD := Lib.hid hrd
  have HHL := Lib.hid hhl
  have HB2 := Lib.hid (HB1.out.trans (hb2.mono HB1.out.size))
  have HKR2 := Lib.hid (HKR.out.below hb2 HKR.out.lt)
  clear hb2 ho2 hrd hhl q1 q2 e2
  go_wp2_with fail
  refine (sum_any w2 A2 hl c2 (fun j => (headerB x).getD j 0) HRD.out hle).mono ?_
  rintro e w3 ⟨rfl, hb3⟩
  have hkk : sha hl (fun j => (headerB x).getD j 0) = hashK x := by unfold hashK; rw [HHL.out]
  rw [hkk]
  obtain ⟨kh, hkh⟩ : ∃ kh, hashK x = kh := ⟨_, rfl⟩
  rw [hkh]
  have HKH := Lib.hid hkh
  have HB3 := Lib.hid (HB2.out.trans (hb3.mono HB2.out.size))
  have HKR3 := Lib.hid (HKR2.out.below hb3 HKR2.out.lt)
  clear hb3 hkk hkh
  go_wp2_with (refine wpList_store_rowTo rfl 23 (.tmp 2) (.tmp 5) rfl rfl gr (bytesOf 32 kh).toArray rfl rfl _ _ HKR3.out (by rw [keyV_size]; kernel_rfl) (by rw [keyV_size, hold]) (keyV_one _) ?_)
  exact bodyPost_ret (results_cell_row rfl _ _ gr _ (bytesOf 32 kh).toArray (0, 0) _ rfl (setRow_same _ _ _ _ _ HKR3.out) Try.underlying23 rfl (by rw [keyV_size]; kernel_rfl)) rfl ⟨by rw [HKH.out], below_setRow HB3.out HGR.out _⟩

set_option maxRecDepth 100000 in
set_option maxHeartbeats 4000000 in
attribute [local go_sem ↓] wp_load_hd in
theorem rhash_any (w : World) (x : Hd) (hx : x.fits) :
    Calls Try.prog 21 #[hdV x] w fun e w' => e = .returned (keyV (hashK x)) ∧ Below w.heap.size w w' := by
  obtain ⟨cx, hcx⟩ : ∃ cx, (hdCells x).toArray = cx := ⟨_, rfl⟩
  show Calls _ _ #[.agg (hdCells x).toArray] _ _
  rw [hcx]
  have HCX := Lib.hid hcx
  have HX := Lib.hid hx
  clear hcx hx
  go_enter Try.func21, Try.ntmps21
  go_upto_region 1 with (fail)
  generalize hw0 : World.alloc w _ = wa
  have hb0 : Below w.heap.size w wa := by rw [← hw0]; exact (Below.refl _ _).alloc (Nat.le_refl _) _
  have hk0 : Blk wa w.heap.size 25 (hdCells x).toArray := by rw [← hw0, HCX.out]; exact heap_alloc_new _ _
  generalize hw1 : World.alloc wa _ = w1
  have hr0 : w1.rowIs wa.heap.size 23 32 (fun _ => .int .u8 0) := by rw [← hw1]; exact (zero_row wa 23 _ rfl _ rfl)
  have hb1 : Below wa.heap.size wa w1 := by rw [← hw1]; exact (Below.refl _ _).alloc (Nat.le_refl _) _
  have hs1 : wa.heap.size = w.heap.size + 1 := by rw [← hw0]; simp
  obtain ⟨old, hkr, hold⟩ := ret_row hr0
  have hkr : Blk w1 wa.heap.size 23 old := hkr
  have hk1 := hk0.below hb1 hk0.lt
  obtain ⟨g, hg⟩ : ∃ g, w.heap.size = g := ⟨_, rfl⟩
  obtain ⟨gr, hgr⟩ : ∃ gr, wa.heap.size = gr := ⟨_, rfl⟩
  have HB1 : Hid (Below w.heap.size w w1) := Lib.hid (hb0.trans (hb1.mono hb0.size))
  have HGR : Hid (w.heap.size ≤ gr) := Lib.hid (by omega)
  rw [hg] at hk1
  rw [hgr] at hkr
  try simp only [World.heap_alloc_size] 
  try rw [hgr]
  try rw [show w.heap.size + 1 = gr by omega]
  try rw [show (⟨w.heap.size, 0, none⟩ : Addr) = ⟨g, 0, none⟩ by rw [hg]]
  have r1 := hd_range hk1
  have q1 := aggOk_mk r1 (hdCells_len x)
  have q2 := loadN_eq r1 (hdCells_len x)
  have HKR := Lib.hid hkr
  clear hw0 hw1 hb0 hk0 hr0 hb1 hs1 hkr hk1 hg hgr r1
  go_wp2_with fail
  refine (rheader_any w1 x HX.out).mono ?_
  rintro e w2 ⟨v2, rfl, hb2, ho2⟩
  obtain ⟨A2, c2, he2⟩ := own_form (show w2.ownsRow w1.heap.size 5 1 v2 _ _ from ho2)
  subst he2
  have hsee := ho2.see
  obtain ⟨A3, c3, he3, _, _, hrd⟩ := hsee
  injection he3 with e1 e2 e3
  subst e1 e3
  rw [bytesL_of] at hrd
  obtain ⟨hl, hhl⟩ : ∃ hl, (headerB x).length = hl := ⟨_, rfl⟩
  have hle : hl ≤ 1099511627776 := by have := headerB_le HX.out; omega
  rw [hhl] at hrd ⊢
  have HRD := Lib.hid hrd
  have HHL := Lib.hid hhl
  have HB2 := Lib.hid (HB1.out.trans (hb2.mono HB1.out.size))
  have HKR2 := Lib.hid (HKR.out.below hb2 HKR.out.lt)
  clear hb2 ho2 hrd hhl q1 q2 e2
  go_wp2_with fail
  refine (rsha_any w2 A2 hl c2 (fun j => (headerB x).getD j 0) HRD.out hle).mono ?_
  rintro e w3 ⟨rfl, hb3⟩
  have hkk : sha hl (fun j => (headerB x).getD j 0) = hashK x := by unfold hashK; rw [HHL.out]
  rw [hkk]
  obtain ⟨kh, hkh⟩ : ∃ kh, hashK x = kh := ⟨_, rfl⟩
  rw [hkh]
  have HKH := Lib.hid hkh
  have HB3 := Lib.hid (HB2.out.trans (hb3.mono HB2.out.size))
  have HKR3 := Lib.hid (HKR2.out.below hb3 HKR2.out.lt)
  clear hb3 hkk hkh
  go_wp2_with (refine wpList_store_rowTo rfl 23 (.tmp 2) (.tmp 5) rfl rfl gr (bytesOf 32 kh).toArray rfl rfl _ _ HKR3.out (by rw [keyV_size]; kernel_rfl) (by rw [keyV_size, hold]) (keyV_one _) ?_)
  exact bodyPost_ret (results_cell_row rfl _ _ gr _ (bytesOf 32 kh).toArray (0, 0) _ rfl (setRow_same _ _ _ _ _ HKR3.out) Try.underlying23 rfl (by rw [keyV_size]; kernel_rfl)) rfl ⟨by rw [HKH.out], below_setRow HB3.out HGR.out _⟩

/-- the root of transactions -/
def rootT (txs : List (List UInt8)) : Ky := rootK txs.length (fun r => (txs.getD r []).length) (fun r j => (txs.getD r []).getD j 0)
theorem TxsAt.rows {w : World} {tv : Value} {txs : List (List UInt8)} (h : TxsAt w tv txs) (hl : ∀ b ∈ txs, b.length ≤ 1073741823) : ∃ A c, tv = .slice A txs.length c ∧ RowsAt w A txs.length c (fun r => (txs.getD r []).length) (fun r j => (txs.getD r []).getD j 0) := by
  obtain ⟨A, c, e, h1, h2, g, o, hA, hr⟩ := h
  refine ⟨A, c, e, h1, h2, g, o, hA, fun r hr' => ?_⟩
  have hb : txs[r]? = some txs[r] := List.getElem?_eq_getElem hr'
  obtain ⟨u, hu, A', c', e', _, _, hrd⟩ := hr r _ hb
  have hd : txs.getD r [] = txs[r] := by rw [List.getD_eq_getElem?_getD, hb]; rfl
  rw [e'] at hu
  simp only [hd]
  rw [bytesL_of] at hrd
  exact ⟨A', c', hu, hrd, hl _ (List.getElem_mem hr')⟩
theorem rroot_t (w : World) (tv : Value) (txs : List (List UInt8)) (ht : TxsAt w tv txs) (hl : ∀ b ∈ txs, b.length ≤ 1073741823) (hn : txs.length ≤ 1073741823) :
    Calls Try.prog 23 #[tv] w fun e w' => e = .returned (keyV (rootT txs)) ∧ Below w.heap.size w w' := by
  obtain ⟨A, c, rfl, hr⟩ := ht.rows hl
  exact rroot_any _ hn w A c _ _ hr
theorem mroot_t (w : World) (tv : Value) (txs : List (List UInt8)) (ht : TxsAt w tv txs) (hl : ∀ b ∈ txs, b.length ≤ 1073741823) (hn : txs.length ≤ 1073741823) :
    Calls Try.prog 36 #[tv] w fun e w' => e = .returned (keyV (rootT txs)) ∧ Below w.heap.size w w' := by
  obtain ⟨A, c, rfl, hr⟩ := ht.rows hl
  exact mroot_any _ hn w A c _ _ hr
set_option maxRecDepth 100000 in
set_option maxHeartbeats 4000000 in
theorem broot_any (w : World) (tv : Value) (txs : List (List UInt8)) (ht : TxsAt w tv txs) (hl : ∀ b ∈ txs, b.length ≤ 1073741823) (hn : txs.length ≤ 1073741823) :
    Calls Try.prog 22 #[tv] w fun e w' => e = .returned (keyV (rootT txs)) ∧ Below w.heap.size w w' := by
  have HT := Lib.hid ht
  have HL := Lib.hid hl
  clear ht hl
  go_enter Try.func22, Try.ntmps22
  go_upto_region 1 with (fail)
  generalize hw1 : World.alloc w _ = w1
  have hr0 : w1.rowIs w.heap.size 23 32 (fun _ => .int .u8 0) := by rw [← hw1]; exact (zero_row w 23 _ rfl _ rfl)
  have hb1 : Below w.heap.size w w1 := by rw [← hw1]; exact (Below.refl _ _).alloc (Nat.le_refl _) _
  obtain ⟨old, hkr, hold⟩ := ret_row hr0
  have hkr : Blk w1 w.heap.size 23 old := hkr
  have HKR := Lib.hid hkr
  have HB1 := Lib.hid hb1
  have HT1 := Lib.hid (HT.out.below hb1)
  clear hw1 hr0 hb1 hkr
  go_wp2_with fail
  refine (mroot_t w1 tv txs HT1.out HL.out hn).mono ?_
  rintro e w2 ⟨rfl, hb2⟩
  obtain ⟨kh, hkh⟩ : ∃ kh, rootT txs = kh := ⟨_, rfl⟩
  rw [hkh]
  have HKH := Lib.hid hkh
  have HB2 := Lib.hid (HB1.out.trans (hb2.mono HB1.out.size))
  have HKR2 := Lib.hid (HKR.out.below hb2 HKR.out.lt)
  clear hb2 hkh
  go_wp2_with (refine wpList_store_rowTo rfl 23 (.tmp 2) (.tmp 4) rfl rfl w.heap.size (bytesOf 32 kh).toArray rfl rfl _ _ HKR2.out (by rw [keyV_size]; kernel_rfl) (by rw [keyV_size, hold]) (keyV_one _) ?_)
  exact bodyPost_ret (results_cell_row rfl _ _ w.heap.size _ (bytesOf 32 kh).toArray (0, 0) _ rfl (setRow_same _ _ _ _ _ HKR2.out) Try.underlying23 rfl (by rw [keyV_size]; kernel_rfl)) rfl ⟨by rw [HKH.out], below_setRow HB2.out (Nat.le_refl _) _⟩

def i3_okay (z : Int) : Prop := -9223372036854775808 ≤ z ∧ z ≤ 9223372036854775807
theorem i3_fill (a b c : Int) (ie : TypeInfo) (hs : ie.size = 1) : Instr.fill (fun i => some (i * ie.size, ie.size)) ((Array.range (3 * ie.size)).map ((Value.int .i64 0).cells[· % (Value.int .i64 0).cells.size]!)) [(0, .int .i64 a), (1, .int .i64 b), (2, .int .i64 c)] = some #[.int .i64 a, .int .i64 b, .int .i64 c] := by
  rw [hs]
  kernel_rfl
theorem int_info : (Try.prog.info? 3).map (fun i => (i.zero, i.size, i.bytes)) = some (some (.int .i64 0), 1, 8) := by kernel_rfl
theorem i3_at {w : World} {g : Nat} {t : TypeId} {a b c : Int} (h : Blk w g t #[.int .i64 a, .int .i64 b, .int .i64 c]) (ha : i3_okay a) (hb : i3_okay b) (hc : i3_okay c) {r : Nat} (hr : r < 3) : ∃ z, i3_okay z ∧ w.cell? ⟨g, r, none⟩ = some (.int .i64 z) := by
  match r, hr with
  | 0, _ => exact ⟨a, ha, by rw [h.cell]; rfl⟩
  | 1, _ => exact ⟨b, hb, by rw [h.cell]; rfl⟩
  | 2, _ => exact ⟨c, hc, by rw [h.cell]; rfl⟩
theorem blCells_putN (x : Hd) (tv : Value) {j : Nat} (hj : j < 3) (z : Int) : (blCells x tv).toArray.setIfInBounds j (.int .i64 z) = (blCells (putN x j z) tv).toArray := by
  match j, hj with
  | 0, _ => rw [List.setIfInBounds_toArray]; rfl
  | 1, _ => rw [List.setIfInBounds_toArray]; rfl
  | 2, _ => rw [List.setIfInBounds_toArray]; rfl
theorem putN_fits {x : Hd} (h : x.fits) {j : Nat} (hj : j < 3) {z : Int} (hz : i3_okay z) : (putN x j z).fits := by
  obtain ⟨h1, h2, h3⟩ := h
  match j, hj with
  | 0, _ => exact ⟨hz, h2, h3⟩
  | 1, _ => exact ⟨h1, hz, h3⟩
  | 2, _ => exact ⟨h1, h2, hz⟩
theorem putN_num (x : Hd) (j : Nat) (z : Int) : True := trivial
set_option maxRecDepth 100000 in
set_option maxHeartbeats 4000000 in
attribute [local go_sem ↓] wp_load_bl in
theorem near_any (w : World) (x : Hd) (hx : x.fits) (tv : Value) (ht : tv.oneCell' = true) (how : Int) (h1 : -9223372036854775808 ≤ how) (h2 : how ≤ 9223372036854775807) :
    Calls Try.prog 10 #[blV x tv, .int .i64 how] w fun e w' => ∃ y : Hd, y.fits ∧ e = .returned (blV y tv) ∧ Below w.heap.size w w' := by
  obtain ⟨j0, hj0, hy0, hy1, hy2⟩ := info_parts int_info
  have HJ0 := Lib.hid hj0
  have HY0 := Lib.hid hy0
  obtain ⟨cx, hcx⟩ : ∃ cx, (blCells x tv).toArray = cx := ⟨_, rfl⟩
  show Calls _ _ #[.agg (blCells x tv).toArray, _] _ _
  rw [hcx]
  have HCX := Lib.hid hcx
  have HT := Lib.hid ht
  have HF0 := Lib.hid hx
  clear hcx ht hx hj0 hy0
  go_enter Try.func10, Try.ntmps10
  go_upto_region 1 with (fail)
  generalize hw1 : World.alloc (World.alloc _ _) _ = w1
  have hb1 : Below w.heap.size w w1 := by rw [← hw1]; exact ((Below.refl _ _).alloc (Nat.le_refl _) _).alloc (by simp) _
  have hk1 : Blk w1 w.heap.size 28 (blCells x tv).toArray := by rw [← hw1, HCX.out]; exact Blk.alloc (heap_alloc_new _ _) _
  have hz1 : Blk w1 (w.heap.size + 1) 28 blZ := by rw [← hw1, ← blZ_zero]; exact heap_alloc_at _ _ _ (by simp)
  obtain ⟨g, hg⟩ : ∃ g, w.heap.size = g := ⟨_, rfl⟩
  obtain ⟨gz, hgz⟩ : ∃ gz, g + 1 = gz := ⟨_, rfl⟩
  rw [hg, hgz] at hz1
  rw [hg] at hk1
  rw [show (⟨w.heap.size, 0, none⟩ : Addr) = ⟨g, 0, none⟩ by rw [hg], show (⟨w.heap.size + 1, 0, none⟩ : Addr) = ⟨gz, 0, none⟩ by rw [hg, hgz]]
  have HNE : Hid (gz ≠ g) := Lib.hid (by omega)
  have HGE : Hid (w.heap.size ≤ g) := Lib.hid (by omega)
  have HGZ : Hid (w.heap.size ≤ gz) := Lib.hid (by omega)
  have HB1 := Lib.hid hb1
  have HK1 := Lib.hid hk1
  have HZ1 := Lib.hid hz1
  clear hw1 hb1 hk1 hz1 hg hgz
  go_wp2_with fail
  refine (place_any how 27 h1 h2 (by omega) (by omega) w1).mono ?_
  rintro e w1' ⟨rfl, rfl⟩
  have hn0 := Int.emod_nonneg how (show (27 : Int) ≠ 0 by omega)
  have hn1 := Int.emod_lt_of_pos how (show (0 : Int) < 27 by omega)
  obtain ⟨n, hn⟩ : ∃ n : Nat, how % 27 = (n : Int) := ⟨(how % 27).toNat, by omega⟩
  rw [hn] at hn0 hn1 ⊢
  have n26 : n ≤ 26 := by omega
  have u1 : Int.tmod (n : Int) 3 = ((n % 3 : Nat) : Int) := by rw [Int.tmod_eq_emod_of_nonneg (by omega)]; rfl
  have u2 : Int.tdiv (n : Int) 9 = ((n / 9 : Nat) : Int) := by rw [Int.tdiv_eq_ediv_of_nonneg (by omega)]; rfl
  have u3 : Int.tmod (n : Int) 2 = ((n % 2 : Nat) : Int) := by rw [Int.tmod_eq_emod_of_nonneg (by omega)]; rfl
  have u4 : Int.tdiv (n : Int) 3 = ((n / 3 : Nat) : Int) := by rw [Int.tdiv_eq_ediv_of_nonneg (by omega)]; rfl
  have u5 : Int.tmod ((n / 3 : Nat) : Int) 3 = ((n / 3 % 3 : Nat) : Int) := by rw [Int.tmod_eq_emod_of_nonneg (by omega)]; rfl
  obtain ⟨r3, hr3⟩ : ∃ r, n % 3 = r := ⟨_, rfl⟩
  obtain ⟨q9, hq9⟩ : ∃ r, n / 9 = r := ⟨_, rfl⟩
  obtain ⟨r2, hr2⟩ : ∃ r, n % 2 = r := ⟨_, rfl⟩
  obtain ⟨q3, hq3⟩ : ∃ r, n / 3 = r := ⟨_, rfl⟩
  rw [hr3] at u1
  rw [hq9] at u2
  rw [hr2] at u3
  rw [hq3] at u4 u5
  obtain ⟨r33, hr33⟩ : ∃ r, q3 % 3 = r := ⟨_, rfl⟩
  rw [hr33] at u5
  have b1 : r3 < 3 := by omega
  have b2 : q9 < 3 := by omega
  have b3 : r2 < 2 := by omega
  have b4 : q3 < 9 := by omega
  have b5 : r33 < 3 := by omega
  clear hn hn0 hn1 n26 hr3 hq9 hr2 hq3 hr33
  have nums := HdAt.num (bl_range HK1.out)
  have ce0 : w1.cell? ⟨g, 0, none⟩ = some (.int .i64 x.h) := nums.1
  have hxb := HF0.out.1
  obtain ⟨xv, hxv⟩ : ∃ xv, x.h = xv := ⟨_, rfl⟩
  rw [hxv] at ce0 hxb
  have pn0 := Int.emod_nonneg xv (show (900 : Int) ≠ 0 by omega)
  have pn1 := Int.emod_lt_of_pos xv (show (0 : Int) < 900 by omega)
  clear nums hxv
  go_wp2_with fail
  refine (place_any xv 900 hxb.1 hxb.2 (by omega) (by omega) w1).mono ?_
  rintro e w' ⟨rfl, rfl⟩
  obtain ⟨pv, hpv⟩ : ∃ pv, xv % 900 = pv := ⟨_, rfl⟩
  rw [hpv] at pn0 pn1 ⊢
  clear hpv hxb
  go_upto_region 3 with (refine wpList_buildSlice rfl 56 3 3 _ rfl #[.int .i64 (1 + pv), .int .i64 0, .int .i64 (1073741824 + (q9 : Int))] j0 _ Try.underlying56 HJ0.out HY0.out (by rw [hy1]; omega) (by rw [hy1]; omega) (by simp only [List.map_toArray, List.map_cons, List.map_nil]; exact i3_fill _ _ _ j0 hy1) ?_
                         generalize hws : World.alloc _ _ = ws
                         have hbs : Below w1.heap.size w1 ws := by rw [← hws]; exact (Below.refl _ _).alloc (Nat.le_refl _) _
                         have hks : Blk ws w1.heap.size 3 #[.int .i64 (1 + pv), .int .i64 0, .int .i64 (1073741824 + (q9 : Int))] := by rw [← hws]; exact heap_alloc_new _ _
                         obtain ⟨z, hzo, hzc⟩ := i3_at hks (by unfold i3_okay; omega) (by unfold i3_okay; omega) (by unfold i3_okay; omega) b1
                         have HBS := Lib.hid hbs
                         have HKS := Lib.hid (HK1.out.below hbs HK1.out.lt)
                         have hfo := HKS.out.frozen 0
                         have ce0 := (hbs.cell (p := ⟨g, 0, none⟩) HK1.out.lt).trans ce0
                         clear hws hbs hks)
  generalize hwn : World.setCell _ _ _ = w2
  have HF1 := Lib.hid (putN_fits HF0.out (j := 0) (by omega) hzo)
  have HK2 : Hid (Blk w2 g 28 (blCells (putN x 0 z) tv).toArray) := Lib.hid (by rw [← hwn, ← blCells_putN x tv (by omega) z]; exact HKS.out.set_ 0 _)
  have HZ2 : Hid (Blk w2 gz 28 blZ) := Lib.hid (by rw [← hwn]; exact (HZ1.out.below HBS.out HZ1.out.lt).far HNE.out _)
  have HB2 : Hid (Below w.heap.size w w2) := Lib.hid (by rw [← hwn]; exact (HB1.out.trans (HBS.out.mono HB1.out.size)).setCell HGE.out _)
  obtain ⟨x1, hxx⟩ : ∃ x', putN x 0 z = x' := ⟨_, rfl⟩
  rw [hxx] at HF1 HK2
  clear hwn hzo hzc hfo ce0 hxx HBS HKS HK1 HZ1 HB1 HF0 pn0 pn1
  have nums := HdAt.num (bl_range HK2.out)
  have ce1 : w2.cell? ⟨g, 1, none⟩ = some (.int .i64 x1.t) := nums.2.1
  have hxb := HF1.out.2.1
  obtain ⟨xv, hxv⟩ : ∃ xv, x1.t = xv := ⟨_, rfl⟩
  rw [hxv] at ce1 hxb
  have pn0 := Int.emod_nonneg xv (show (90000 : Int) ≠ 0 by omega)
  have pn1 := Int.emod_lt_of_pos xv (show (0 : Int) < 90000 by omega)
  clear nums hxv
  go_wp2_with fail
  refine (place_any xv 90000 hxb.1 hxb.2 (by omega) (by omega) w2).mono ?_
  rintro e w' ⟨rfl, rfl⟩
  obtain ⟨pv, hpv⟩ : ∃ pv, xv % 90000 = pv := ⟨_, rfl⟩
  rw [hpv] at pn0 pn1 ⊢
  clear hpv hxb
  go_upto_region 4 with (refine wpList_buildSlice rfl 56 3 3 _ rfl #[.int .i64 (1 + pv), .int .i64 (r2 : Int), .int .i64 (1099511627776 + (r2 : Int))] j0 _ Try.underlying56 HJ0.out HY0.out (by rw [hy1]; omega) (by rw [hy1]; omega) (by simp only [List.map_toArray, List.map_cons, List.map_nil]; exact i3_fill _ _ _ j0 hy1) ?_
                         generalize hws : World.alloc _ _ = ws
                         have hbs : Below w2.heap.size w2 ws := by rw [← hws]; exact (Below.refl _ _).alloc (Nat.le_refl _) _
                         have hks : Blk ws w2.heap.size 3 #[.int .i64 (1 + pv), .int .i64 (r2 : Int), .int .i64 (1099511627776 + (r2 : Int))] := by rw [← hws]; exact heap_alloc_new _ _
                         obtain ⟨z, hzo, hzc⟩ := i3_at hks (by unfold i3_okay; omega) (by unfold i3_okay; omega) (by unfold i3_okay; omega) b5
                         have HBS := Lib.hid hbs
                         have HKS := Lib.hid (HK2.out.below hbs HK2.out.lt)
                         have hfo := HKS.out.frozen 1
                         have ce1 := (hbs.cell (p := ⟨g, 1, none⟩) HK2.out.lt).trans ce1
                         clear hws hbs hks)
  generalize hwn : World.setCell _ _ _ = w3
  have HF2 := Lib.hid (putN_fits HF1.out (j := 1) (by omega) hzo)
  have HK3 : Hid (Blk w3 g 28 (blCells (putN x1 1 z) tv).toArray) := Lib.hid (by rw [← hwn, ← blCells_putN x1 tv (by omega) z]; exact HKS.out.set_ 1 _)
  have HZ3 : Hid (Blk w3 gz 28 blZ) := Lib.hid (by rw [← hwn]; exact (HZ2.out.below HBS.out HZ2.out.lt).far HNE.out _)
  have HB3 : Hid (Below w.heap.size w w3) := Lib.hid (by rw [← hwn]; exact (HB2.out.trans (HBS.out.mono HB2.out.size)).setCell HGE.out _)
  obtain ⟨x2, hxx⟩ : ∃ x', putN x1 1 z = x' := ⟨_, rfl⟩
  rw [hxx] at HF2 HK3
  clear hwn hzo hzc hfo ce1 hxx HBS HKS HK2 HZ2 HB2 HF1 pn0 pn1
  have nums := HdAt.num (bl_range HK3.out)
  have ce2 : w3.cell? ⟨g, 2, none⟩ = some (.int .i64 x2.p) := nums.2.2
  have hxb := HF2.out.2.2
  obtain ⟨xv, hxv⟩ : ∃ xv, x2.p = xv := ⟨_, rfl⟩
  rw [hxv] at ce2 hxb
  have pn0 := Int.emod_nonneg xv (show (8 : Int) ≠ 0 by omega)
  have pn1 := Int.emod_lt_of_pos xv (show (0 : Int) < 8 by omega)
  clear nums hxv
  go_wp2_with fail
  refine (place_any xv 8 hxb.1 hxb.2 (by omega) (by omega) w3).mono ?_
  rintro e w' ⟨rfl, rfl⟩
  obtain ⟨pv, hpv⟩ : ∃ pv, xv % 8 = pv := ⟨_, rfl⟩
  rw [hpv] at pn0 pn1 ⊢
  clear hpv hxb
  go_upto_region 5 with (refine wpList_buildSlice rfl 56 3 3 _ rfl #[.int .i64 pv, .int .i64 8, .int .i64 0] j0 _ Try.underlying56 HJ0.out HY0.out (by rw [hy1]; omega) (by rw [hy1]; omega) (by simp only [List.map_toArray, List.map_cons, List.map_nil]; exact i3_fill _ _ _ j0 hy1) ?_
                         generalize hws : World.alloc _ _ = ws
                         have hbs : Below w3.heap.size w3 ws := by rw [← hws]; exact (Below.refl _ _).alloc (Nat.le_refl _) _
                         have hks : Blk ws w3.heap.size 3 #[.int .i64 pv, .int .i64 8, .int .i64 0] := by rw [← hws]; exact heap_alloc_new _ _
                         obtain ⟨z, hzo, hzc⟩ := i3_at hks (by unfold i3_okay; omega) (by unfold i3_okay; omega) (by unfold i3_okay; omega) b2
                         have HBS := Lib.hid hbs
                         have HKS := Lib.hid (HK3.out.below hbs HK3.out.lt)
                         have hfo := HKS.out.frozen 2
                         have ce2 := (hbs.cell (p := ⟨g, 2, none⟩) HK3.out.lt).trans ce2
                         clear hws hbs hks)
  generalize hwn : World.setCell _ _ _ = w4
  have HF3 := Lib.hid (putN_fits HF2.out (j := 2) (by omega) hzo)
  have HK4 : Hid (Blk w4 g 28 (blCells (putN x2 2 z) tv).toArray) := Lib.hid (by rw [← hwn, ← blCells_putN x2 tv (by omega) z]; exact HKS.out.set_ 2 _)
  have HZ4 : Hid (Blk w4 gz 28 blZ) := Lib.hid (by rw [← hwn]; exact (HZ3.out.below HBS.out HZ3.out.lt).far HNE.out _)
  have HB4 : Hid (Below w.heap.size w w4) := Lib.hid (by rw [← hwn]; exact (HB3.out.trans (HBS.out.mono HB3.out.size)).setCell HGE.out _)
  obtain ⟨x3, hxx⟩ : ∃ x', putN x2 2 z = x' := ⟨_, rfl⟩
  rw [hxx] at HF3 HK4
  clear hwn hzo hzc hfo ce2 hxx HBS HKS HK3 HZ3 HB3 HF2 pn0 pn1
  have hrg := bl_rangeAll HK4.out
  have q1 := aggOk_mk hrg (blCells_len _ _)
  have q2 := loadN_eq hrg (blCells_len _ _)
  clear hrg
  go_wp2_with (refine wpList_store_rowTo rfl 28 (.tmp 4) (.tmp 52) rfl rfl gz (blCells x3 tv).toArray rfl rfl _ _ HZ4.out (bl_szI _ _) (bl_szZ _ _) (all_one _ (blCells_one HT.out)) ?_)
  exact bodyPost_ret (results_cell_row rfl _ _ gz _ (blCells x3 tv).toArray (0, 0) _ rfl (setRow_same _ _ _ _ _ HZ4.out) Try.underlying28 rfl (bl_szI _ _)) rfl ⟨x3, HF3.out, rfl, below_setRow HB4.out HGZ.out _⟩
end Go.Proofs.Ytnhggaghidbniaa
