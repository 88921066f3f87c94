/- The program's function for one block of SHA-256. -/
import Derived.Test.YtnhggaghidbniaaShaW3
namespace Go.Proofs.Ytnhggaghidbniaa
open Go.RowKit
set_option linter.unusedVariables false
open ShaW Sha

theorem addM3 (a b c : Wd) : ((a.toNat : Int) + b.toNat + c.toNat) % 4294967296 = (((a + b) + c).toNat : Int) := by
  simp only [BitVec.toNat_add]; omega

structure P3 (w wr : World) (s : St) (g : Nat → Wd) (bk bw bv : Nat) (v : St) : Prop where
  bel : Below w.heap.size w wr
  st : wr.rowIs w.heap.size 94 8 (fun i => .int .u32 (wordOf s i).toNat)
  res : wr.rowIs (w.heap.size + 1) 94 8 (fun _ => .int .u32 0)
  ks : wr.rowIs bk 99 64 (fun j => .int .u32 (kc j).toNat)
  ws : wr.rowIs bw 99 64 (fun j => .int .u32 (g j).toNat)
  vs : wr.rowIs bv 94 8 (fun i => .int .u32 (wordOf v i).toNat)
  k0 : w.heap.size + 1 < bk
  k1 : bk < bw
  k2 : bw < bv
theorem P3.drew {w wr : World} {s : St} {g : Nat → Wd} {bk bw bv : Nat} {v : St} (h : P3 w wr s g bk bw bv v) (n : Nat) : P3 w (wr.drewN n) s g bk bw bv v :=
  ⟨below_drewN h.bel n, h.st, h.res, h.ks, h.ws, h.vs, h.k0, h.k1, h.k2⟩
theorem P3.set8 {w wr : World} {s : St} {g : Nat → Wd} {bk bw bv : Nat} {v : St} (h : P3 w wr s g bk bw bv v) (v' : St) :
    P3 w (((((((((wr.setCell ⟨bv, 0, none⟩ (.int .u32 v'.a.toNat)).setCell ⟨bv, 1, none⟩ (.int .u32 v'.b.toNat)).setCell ⟨bv, 2, none⟩ (.int .u32 v'.c.toNat)).setCell ⟨bv, 3, none⟩ (.int .u32 v'.d.toNat)).setCell ⟨bv, 4, none⟩ (.int .u32 v'.e.toNat)).setCell ⟨bv, 5, none⟩ (.int .u32 v'.f.toNat)).setCell ⟨bv, 6, none⟩ (.int .u32 v'.g.toNat)).setCell ⟨bv, 7, none⟩ (.int .u32 v'.h.toNat)) : World) s g bk bw bv v' := by
  have k0 := h.k0
  have k1 := h.k1
  have k2 := h.k2
  refine ⟨?_, ?_, ?_, ?_, ?_, rowIs_set8 h.vs v', k0, k1, k2⟩
  · refine ((((((((h.bel.setCell ?_ _).setCell ?_ _).setCell ?_ _).setCell ?_ _).setCell ?_ _).setCell ?_ _).setCell ?_ _).setCell ?_ _) <;> (simp; omega)
  · refine ((((((((h.st.setOther ?_ _).setOther ?_ _).setOther ?_ _).setOther ?_ _).setOther ?_ _).setOther ?_ _).setOther ?_ _).setOther ?_ _) <;> (simp; omega)
  · refine ((((((((h.res.setOther ?_ _).setOther ?_ _).setOther ?_ _).setOther ?_ _).setOther ?_ _).setOther ?_ _).setOther ?_ _).setOther ?_ _) <;> (simp; omega)
  · refine ((((((((h.ks.setOther ?_ _).setOther ?_ _).setOther ?_ _).setOther ?_ _).setOther ?_ _).setOther ?_ _).setOther ?_ _).setOther ?_ _) <;> (simp; omega)
  · refine ((((((((h.ws.setOther ?_ _).setOther ?_ _).setOther ?_ _).setOther ?_ _).setOther ?_ _).setOther ?_ _).setOther ?_ _).setOther ?_ _) <;> (simp; omega)

structure P4 (w wr : World) (φ : Nat → Wd) (bv : Nat) (v : St) : Prop where
  bel : Below w.heap.size w wr
  st : wr.rowIs w.heap.size 94 8 (fun i => .int .u32 (φ i).toNat)
  res : wr.rowIs (w.heap.size + 1) 94 8 (fun _ => .int .u32 0)
  vs : wr.rowIs bv 94 8 (fun i => .int .u32 (wordOf v i).toNat)
  lt : w.heap.size + 1 < bv
theorem P4.drew {w wr : World} {φ : Nat → Wd} {bv : Nat} {v : St} (h : P4 w wr φ bv v) (n : Nat) : P4 w (wr.drewN n) φ bv v :=
  ⟨below_drewN h.bel n, h.st, h.res, h.vs, h.lt⟩
theorem P4.set {w wr : World} {φ : Nat → Wd} {bv : Nat} {v : St} (h : P4 w wr φ bv v) (i : Nat) (x : Wd) : P4 w (wr.setCell ⟨w.heap.size, i, none⟩ (.int .u32 x.toNat)) (fun j => if j = i then x else φ j) bv v := by
  have := h.lt
  exact ⟨h.bel.setCell (by simp) _, (h.st.set i _).congr (by intro j _; split <;> rfl), h.res.setOther (by simp) _, h.vs.setOther (by simp; omega) _, h.lt⟩

set_option maxRecDepth 100000 in
set_option maxHeartbeats 4000000 in
theorem block_any (s : St) (b off cap : Nat) (f : Nat → UInt8) (w : World) (hc : ∀ j, j < 64 → w.cell? ⟨b, off + j, none⟩ = some (.int .u8 ((f j).toNat : Int))) :
    Calls Try.prog 59 #[stV s, .slice (some ⟨b, off, none⟩) 64 cap] w fun e w' => e = .returned (stV (block s f)) ∧ Below w.heap.size w w' := by
  obtain ⟨a0, b0, c0, d0, e0, f0, g0, h0⟩ := s
  have HC := Lib.hid hc
  clear hc
  go_enter Try.func59, Try.ntmps59
  go_wp2_with fail
  have e8 : ∀ i, i < 8 → i = 0 ∨ i = 1 ∨ i = 2 ∨ i = 3 ∨ i = 4 ∨ i = 5 ∨ i = 6 ∨ i = 7 := by omega
  generalize hwi : World.alloc (World.alloc w _) _ = wi
  have hwb : Below w.heap.size w wi := by rw [← hwi]; exact ((Below.refl _ _).alloc (Nat.le_refl _) _).alloc (by simp) _
  have hws : wi.heap.size = w.heap.size + 1 + 1 := by rw [← hwi]; simp
  have hi1 : wi.rowIs w.heap.size 94 8 (fun i => .int .u32 (wordOf (⟨a0, b0, c0, d0, e0, f0, g0, h0⟩ : St) i).toNat) := by
    rw [← hwi]
    refine World.rowIs.alloc (World.rowIs_alloc w _ _ _ ?_) _
    intro i hi
    rcases e8 i hi with rfl | rfl | rfl | rfl | rfl | rfl | rfl | rfl <;> rfl
  have hi2 : wi.rowIs (w.heap.size + 1) 94 8 (fun _ => .int .u32 0) := by
    rw [← hwi]
    refine rowIs_of_heap (heap_alloc_at _ _ _ (by simp)) rfl ?_
    intro i hi
    rcases e8 i hi with rfl | rfl | rfl | rfl | rfl | rfl | rfl | rfl <;> rfl
  clear hwi
  refine (schedule_any b off cap f wi (fun j hj => (hwb.cell (p := ⟨b, off + j, none⟩) (World.block_lt_of_cell? w _ (HC.out j hj))).trans (HC.out j hj))).mono ?_
  rintro e w1 ⟨cs, ⟨hcs, rfl⟩, hb1⟩
  have h1s := hb1.size
  go_wp2_with fail
  refine (rounds_any _).mono ?_
  rintro e w2 ⟨rfl, rfl⟩
  go_wp2_with (refine wpList_store_rowTo rfl 99 (.tmp 5) (.tmp 18) rfl rfl (w1.heap.size + 1) cs rfl rfl _ _ (heap_alloc_at _ _ _ (by simp)) (by rw [hcs.1]; kernel_rfl) (by rw [hcs.1]; kernel_rfl) hcs.one ?_; refine halted ?_)
  change wpList _ _ _ _ _ _
  generalize hW : World.setRow _ _ _ = wq
  have hb2 : Below w.heap.size w wq := by
    rw [← hW]
    exact below_setRow (((hwb.trans (hb1.mono (by omega))).alloc (by omega) _).alloc (by simp; omega) _) (by omega) _
  have hst : wq.rowIs w.heap.size 94 8 (fun i => .int .u32 (wordOf (⟨a0, b0, c0, d0, e0, f0, g0, h0⟩ : St) i).toNat) := by
    rw [← hW]
    exact ((((hi1.of_block (hb1.block _ hi1.lt)).alloc _).alloc _).of_block (setRow_other _ _ _ _ (by simp; omega)))
  have hres : wq.rowIs (w.heap.size + 1) 94 8 (fun _ => .int .u32 0) := by
    rw [← hW]
    exact ((((hi2.of_block (hb1.block _ hi2.lt)).alloc _).alloc _).of_block (setRow_other _ _ _ _ (by simp; omega)))
  have hks : wq.rowIs w1.heap.size 99 64 (fun j => .int .u32 (kc j).toNat) := by
    rw [← hW]
    exact ((rowIs_of_heap (cs := kArr) (n := 64) (heap_alloc_at _ _ _ rfl) rfl kArr_get).alloc _).of_block (setRow_other _ _ _ _ (by simp))
  have hwsr : wq.rowIs (w1.heap.size + 1) 99 64 (fun j => .int .u32 (wsAt f 64 j).toNat) := by
    rw [← hW]
    exact rowIs_of_heap (setRow_same _ _ _ _ _ (heap_alloc_at _ _ _ (by simp))) hcs.1 hcs.2
  have hszq : wq.heap.size = (w1.heap.size + 1) + 1 := by rw [← hW]; simp
  clear hW
  have hlt1 : w.heap.size + 1 < w1.heap.size := by omega
  have hlt2 : w1.heap.size < (w1.heap.size + 1) := by omega
  have hlt3 : (w1.heap.size + 1) < wq.heap.size := by omega
  have HX0 := Lib.hid hb2
  have HX1 := Lib.hid hst
  have HX2 := Lib.hid hres
  have HX3 := Lib.hid hks
  have HX4 := Lib.hid hwsr
  have xs0 : wq.cell? ⟨w.heap.size, 0, none⟩ = some (.int .u32 a0.toNat) := hst.cell (i := 0) (by omega)
  have xs1 : wq.cell? ⟨w.heap.size, 1, none⟩ = some (.int .u32 b0.toNat) := hst.cell (i := 1) (by omega)
  have xs2 : wq.cell? ⟨w.heap.size, 2, none⟩ = some (.int .u32 c0.toNat) := hst.cell (i := 2) (by omega)
  have xs3 : wq.cell? ⟨w.heap.size, 3, none⟩ = some (.int .u32 d0.toNat) := hst.cell (i := 3) (by omega)
  have xs4 : wq.cell? ⟨w.heap.size, 4, none⟩ = some (.int .u32 e0.toNat) := hst.cell (i := 4) (by omega)
  have xs5 : wq.cell? ⟨w.heap.size, 5, none⟩ = some (.int .u32 f0.toNat) := hst.cell (i := 5) (by omega)
  have xs6 : wq.cell? ⟨w.heap.size, 6, none⟩ = some (.int .u32 g0.toNat) := hst.cell (i := 6) (by omega)
  have xs7 : wq.cell? ⟨w.heap.size, 7, none⟩ = some (.int .u32 h0.toNat) := hst.cell (i := 7) (by omega)
  clear hb2 hst hres hks hwsr hszq hwb hws hi1 hi2 hb1 h1s hcs e8
  go_wp2_with fail
  have hP : P3 w (wq.alloc (Obj.cells #[.int .u32 a0.toNat, .int .u32 b0.toNat, .int .u32 c0.toNat, .int .u32 d0.toNat, .int .u32 e0.toNat, .int .u32 f0.toNat, .int .u32 g0.toNat, .int .u32 h0.toNat] 94)) ⟨a0, b0, c0, d0, e0, f0, g0, h0⟩ (wsAt f 64) w1.heap.size (w1.heap.size + 1) wq.heap.size ⟨a0, b0, c0, d0, e0, f0, g0, h0⟩ := by
    refine ⟨HX0.out.alloc (by omega) _, HX1.out.alloc _, HX2.out.alloc _, HX3.out.alloc _, HX4.out.alloc _, rowIs_of_heap (heap_alloc_new _ _) rfl ?_, by omega, by omega, by omega⟩
    intro i hi
    have : i = 0 ∨ i = 1 ∨ i = 2 ∨ i = 3 ∨ i = 4 ∨ i = 5 ∨ i = 6 ∨ i = 7 := by omega
    rcases this with rfl | rfl | rfl | rfl | rfl | rfl | rfl | rfl <;> rfl
  have HP := Lib.hid hP
  clear hP HX0 HX1 HX2 HX3 HX4 xs0 xs1 xs2 xs3 xs4 xs5 xs6 xs7
  go_loopw [21] (fun i wr => ∃ k : Nat, k ≤ 64 ∧ i = .int .i64 k ∧ P3 w wr ⟨a0, b0, c0, d0, e0, f0, g0, h0⟩ (wsAt f 64) w1.heap.size (w1.heap.size + 1) wq.heap.size (comp ⟨a0, b0, c0, d0, e0, f0, g0, h0⟩ (sched f 64) k)) (fun i _ => (64 - intOf i).toNat)
  case atStart => exact ⟨0, by omega, rfl, HP.out⟩
  case round =>
    obtain ⟨k, hk, rfl, hM⟩ := hrel
    clear HP
    by_cases hlt : k < 64
    · skip
      obtain ⟨va, vb, vc, vd, ve, vf, vg, vh, hv⟩ : ∃ va vb vc vd ve vf vg vh, comp ⟨a0, b0, c0, d0, e0, f0, g0, h0⟩ (sched f 64) k = ⟨va, vb, vc, vd, ve, vf, vg, vh⟩ := ⟨_, _, _, _, _, _, _, _, rfl⟩
      have HV : Hid (comp ⟨a0, b0, c0, d0, e0, f0, g0, h0⟩ (sched f 64) (k + 1) = round ⟨va, vb, vc, vd, ve, vf, vg, vh⟩ (kc k) (wsAt f 64 k)) := by
        show _ = _
        rw [wsAt_lt f (by omega)]
        show round (comp _ _ k) _ _ = _
        rw [hv]
      rw [hv] at hM
      clear hv
      have hs3 := hM.vs.lt
      have xc0 : wr.cell? ⟨wq.heap.size, 0, none⟩ = some (.int .u32 va.toNat) := hM.vs.cell (i := 0) (by omega)
      have xc1 : wr.cell? ⟨wq.heap.size, 1, none⟩ = some (.int .u32 vb.toNat) := hM.vs.cell (i := 1) (by omega)
      have xc2 : wr.cell? ⟨wq.heap.size, 2, none⟩ = some (.int .u32 vc.toNat) := hM.vs.cell (i := 2) (by omega)
      have xc3 : wr.cell? ⟨wq.heap.size, 3, none⟩ = some (.int .u32 vd.toNat) := hM.vs.cell (i := 3) (by omega)
      have xc4 : wr.cell? ⟨wq.heap.size, 4, none⟩ = some (.int .u32 ve.toNat) := hM.vs.cell (i := 4) (by omega)
      have xc5 : wr.cell? ⟨wq.heap.size, 5, none⟩ = some (.int .u32 vf.toNat) := hM.vs.cell (i := 5) (by omega)
      have xc6 : wr.cell? ⟨wq.heap.size, 6, none⟩ = some (.int .u32 vg.toNat) := hM.vs.cell (i := 6) (by omega)
      have xc7 : wr.cell? ⟨wq.heap.size, 7, none⟩ = some (.int .u32 vh.toNat) := hM.vs.cell (i := 7) (by omega)
      have xf0 : wr.frozen? ⟨wq.heap.size, 0, none⟩ = false := hM.vs.frozen 0
      have xf1 : wr.frozen? ⟨wq.heap.size, 1, none⟩ = false := hM.vs.frozen 1
      have xf2 : wr.frozen? ⟨wq.heap.size, 2, none⟩ = false := hM.vs.frozen 2
      have xf3 : wr.frozen? ⟨wq.heap.size, 3, none⟩ = false := hM.vs.frozen 3
      have xf4 : wr.frozen? ⟨wq.heap.size, 4, none⟩ = false := hM.vs.frozen 4
      have xf5 : wr.frozen? ⟨wq.heap.size, 5, none⟩ = false := hM.vs.frozen 5
      have xf6 : wr.frozen? ⟨wq.heap.size, 6, none⟩ = false := hM.vs.frozen 6
      have xf7 : wr.frozen? ⟨wq.heap.size, 7, none⟩ = false := hM.vs.frozen 7
      obtain ⟨kk, hkk⟩ : ∃ x, kc k = x := ⟨_, rfl⟩
      obtain ⟨ww, hww⟩ : ∃ x, wsAt f 64 k = x := ⟨_, rfl⟩
      have xc8 : wr.cell? ⟨w1.heap.size, k, none⟩ = some (.int .u32 kk.toNat) := by rw [← hkk]; exact hM.ks.cell hlt
      have xc9 : wr.cell? ⟨(w1.heap.size + 1), k, none⟩ = some (.int .u32 ww.toNat) := by rw [← hww]; exact hM.ws.cell hlt
      rw [hkk, hww] at HV
      clear hkk hww
      have HM := Lib.hid hM
      clear hM
      have p0 : (k : Int) < 64 := by omega
      have p1 : (0 : Int) ≤ k := by omega
      have hX : (((vh.toNat : Int) + bits .xor .u32 (bits .xor .u32 ((rotr ve 6).toNat : Int) ((rotr ve 11).toNat : Int)) ((rotr ve 25).toNat : Int) + bits .xor .u32 (bits .and .u32 (ve.toNat : Int) (vf.toNat : Int)) (bits .and .u32 (bits .xor .u32 IntKind.u32.max (ve.toNat : Int)) (vg.toNat : Int)) + (kk.toNat : Int)) % 4294967296 + (ww.toNat : Int)) % 4294967296 =
          ((((((vh + ((rotr ve 6 ^^^ rotr ve 11) ^^^ rotr ve 25)) + ((ve &&& vf) ^^^ (~~~ve &&& vg))) + kk) + ww) : Wd).toNat : Int) := by
        simp only [xorN, andN, notN]
        rw [Int.add_emod, Int.emod_emod_of_dvd _ (Int.dvd_refl _), ← Int.add_emod]
        exact addM5 _ _ _ _ _
      obtain ⟨X, hXe⟩ : ∃ X : Wd, (((vh + ((rotr ve 6 ^^^ rotr ve 11) ^^^ rotr ve 25)) + ((ve &&& vf) ^^^ (~~~ve &&& vg))) + kk) + ww = X := ⟨_, rfl⟩
      obtain ⟨Y, hYe⟩ : ∃ Y : Wd, ((rotr va 2 ^^^ rotr va 13) ^^^ rotr va 22) + (((va &&& vb) ^^^ (va &&& vc)) ^^^ (vb &&& vc)) = Y := ⟨_, rfl⟩
      have hY : ((X.toNat : Int) + bits .xor .u32 (bits .xor .u32 ((rotr va 2).toNat : Int) ((rotr va 13).toNat : Int)) ((rotr va 22).toNat : Int) + bits .xor .u32 (bits .xor .u32 (bits .and .u32 (va.toNat : Int) (vb.toNat : Int)) (bits .and .u32 (va.toNat : Int) (vc.toNat : Int))) (bits .and .u32 (vb.toNat : Int) (vc.toNat : Int))) % 4294967296 = ((X + Y).toNat : Int) := by
        rw [← hYe, ← BitVec.add_assoc]
        simp only [xorN, andN]
        exact addM3 _ _ _
      rw [hXe] at hX
      have HR : Hid (round ⟨va, vb, vc, vd, ve, vf, vg, vh⟩ kk ww = ⟨X + Y, va, vb, vc, vd + X, ve, vf, vg⟩) := by
        show _ = _
        rw [← hXe, ← hYe]
        rfl
      have HX := Lib.hid hX
      have HY := Lib.hid hY
      clear hX hY hXe hYe
      have HE : Hid (((vd.toNat : Int) + X.toNat) % 4294967296 = ((vd + X).toNat : Int)) := addM vd X
      go_wp2_with fail
      go_quiet (fail)
      go_wp2_with fail
      refine (right_lit _ _ (by omega) _).mono ?_; rintro e w' ⟨rfl, m1, rfl⟩
      go_wp2_with fail
      refine (right_lit _ _ (by omega) _).mono ?_; rintro e w' ⟨rfl, m2, rfl⟩
      go_wp2_with fail
      refine (right_lit _ _ (by omega) _).mono ?_; rintro e w' ⟨rfl, m3, rfl⟩
      go_wp2_with fail
      go_quiet (fail)
      go_wp2_with fail
      rw [HX.out]
      refine (right_lit _ _ (by omega) _).mono ?_; rintro e w' ⟨rfl, m4, rfl⟩
      go_wp2_with fail
      refine (right_lit _ _ (by omega) _).mono ?_; rintro e w' ⟨rfl, m5, rfl⟩
      go_wp2_with fail
      refine (right_lit _ _ (by omega) _).mono ?_; rintro e w' ⟨rfl, m6, rfl⟩
      go_wp2_with fail
      go_roundw
      case rel =>
        refine ⟨k + 1, by omega, by go_num, ?_⟩
        rw [HV.out, HR.out, HY.out, HE.out]
        exact (HM.out.drew _).set8 ⟨X + Y, va, vb, vc, vd + X, ve, vf, vg⟩
      case measure => simp [intOf]; omega
    · obtain rfl : k = 64 := by omega
      obtain ⟨wt, rfl⟩ : ∃ wo : World, wo = wr := ⟨_, rfl⟩
      have HM := Lib.hid hM
      clear hM hlt
      rw [show ((64 : Nat) : Int) = 64 from rfl]
      go_wp2_with fail
      obtain ⟨vv, hvv⟩ : ∃ vv, comp ⟨a0, b0, c0, d0, e0, f0, g0, h0⟩ (sched f 64) 64 = vv := ⟨_, rfl⟩
      have HVV := Lib.hid hvv
      rw [hvv] at HM
      clear hvv
      go_loopw [106] (fun i wr => ∃ k : Nat, k ≤ 8 ∧ i = .int .i64 k ∧ P4 w wr (addAt ⟨a0, b0, c0, d0, e0, f0, g0, h0⟩ vv k) wq.heap.size vv) (fun i _ => (8 - intOf i).toNat)
      case atStart =>
        have hm := HM.out
        have k0 := hm.k0
        have k1 := hm.k1
        have k2 := hm.k2
        exact ⟨0, by omega, rfl, hm.bel, hm.st.congr (fun i _ => by simp [addAt]), hm.res, hm.vs, by omega⟩
      case round =>
        obtain ⟨k, hk, rfl, hM⟩ := hrel
        clear HM
        by_cases hlt : k < 8
        · obtain ⟨x, hx⟩ : ∃ x, wordOf (⟨a0, b0, c0, d0, e0, f0, g0, h0⟩ : St) k = x := ⟨_, rfl⟩
          obtain ⟨y, hy⟩ : ∃ x, wordOf vv k = x := ⟨_, rfl⟩
          have x0 : wr.cell? ⟨w.heap.size, k, none⟩ = some (.int .u32 x.toNat) := by
            have := hM.st.cell hlt
            simp only [addAt, Nat.lt_irrefl, if_false, hx] at this
            exact this
          have x1 : wr.cell? ⟨wq.heap.size, k, none⟩ = some (.int .u32 y.toNat) := by rw [← hy]; exact hM.vs.cell hlt
          have x2 : wr.frozen? ⟨w.heap.size, k, none⟩ = false := hM.st.frozen k
          have HA : Hid ((fun j => if j = k then x + y else addAt ⟨a0, b0, c0, d0, e0, f0, g0, h0⟩ vv k j) = addAt ⟨a0, b0, c0, d0, e0, f0, g0, h0⟩ vv (k + 1)) := by
            show _ = _
            rw [← hx, ← hy]
            exact addAt_succ _ _ k
          have HM := Lib.hid hM
          clear hx hy hM
          have p0 : (k : Int) < 8 := by omega
          have p1 : (0 : Int) ≤ k := by omega
          have HX := Lib.hid (addM x y)
          go_wp2_with fail
          go_still_tail 7, (by kernel_rfl)
          change wpList _ _ _ _ _ (wr.drewN 1)
          go_wp2_with fail
          go_roundw
          case rel =>
            refine ⟨k + 1, by omega, by go_num, ?_⟩
            rw [HX.out, ← HA.out]
            exact (HM.out.drew _).set k _
          case measure => simp [intOf]; omega
        · obtain rfl : k = 8 := by omega
          obtain ⟨wu, rfl⟩ : ∃ wo : World, wo = wr := ⟨_, rfl⟩
          have xc0 : wu.cell? ⟨w.heap.size, 0, none⟩ = some (.int .u32 _) := hM.st.cell (i := 0) (by omega)
          have xc1 : wu.cell? ⟨w.heap.size, 1, none⟩ = some (.int .u32 _) := hM.st.cell (i := 1) (by omega)
          have xc2 : wu.cell? ⟨w.heap.size, 2, none⟩ = some (.int .u32 _) := hM.st.cell (i := 2) (by omega)
          have xc3 : wu.cell? ⟨w.heap.size, 3, none⟩ = some (.int .u32 _) := hM.st.cell (i := 3) (by omega)
          have xc4 : wu.cell? ⟨w.heap.size, 4, none⟩ = some (.int .u32 _) := hM.st.cell (i := 4) (by omega)
          have xc5 : wu.cell? ⟨w.heap.size, 5, none⟩ = some (.int .u32 _) := hM.st.cell (i := 5) (by omega)
          have xc6 : wu.cell? ⟨w.heap.size, 6, none⟩ = some (.int .u32 _) := hM.st.cell (i := 6) (by omega)
          have xc7 : wu.cell? ⟨w.heap.size, 7, none⟩ = some (.int .u32 _) := hM.st.cell (i := 7) (by omega)
          have xr0 : wu.cell? ⟨w.heap.size + 1, 0, none⟩ = some (.int .u32 0) := hM.res.cell (i := 0) (by omega)
          have xf0 : wu.frozen? ⟨w.heap.size + 1, 0, none⟩ = false := hM.res.frozen 0
          have xr1 : wu.cell? ⟨w.heap.size + 1, 1, none⟩ = some (.int .u32 0) := hM.res.cell (i := 1) (by omega)
          have xf1 : wu.frozen? ⟨w.heap.size + 1, 1, none⟩ = false := hM.res.frozen 1
          have xr2 : wu.cell? ⟨w.heap.size + 1, 2, none⟩ = some (.int .u32 0) := hM.res.cell (i := 2) (by omega)
          have xf2 : wu.frozen? ⟨w.heap.size + 1, 2, none⟩ = false := hM.res.frozen 2
          have xr3 : wu.cell? ⟨w.heap.size + 1, 3, none⟩ = some (.int .u32 0) := hM.res.cell (i := 3) (by omega)
          have xf3 : wu.frozen? ⟨w.heap.size + 1, 3, none⟩ = false := hM.res.frozen 3
          have xr4 : wu.cell? ⟨w.heap.size + 1, 4, none⟩ = some (.int .u32 0) := hM.res.cell (i := 4) (by omega)
          have xf4 : wu.frozen? ⟨w.heap.size + 1, 4, none⟩ = false := hM.res.frozen 4
          have xr5 : wu.cell? ⟨w.heap.size + 1, 5, none⟩ = some (.int .u32 0) := hM.res.cell (i := 5) (by omega)
          have xf5 : wu.frozen? ⟨w.heap.size + 1, 5, none⟩ = false := hM.res.frozen 5
          have xr6 : wu.cell? ⟨w.heap.size + 1, 6, none⟩ = some (.int .u32 0) := hM.res.cell (i := 6) (by omega)
          have xf6 : wu.frozen? ⟨w.heap.size + 1, 6, none⟩ = false := hM.res.frozen 6
          have xr7 : wu.cell? ⟨w.heap.size + 1, 7, none⟩ = some (.int .u32 0) := hM.res.cell (i := 7) (by omega)
          have xf7 : wu.frozen? ⟨w.heap.size + 1, 7, none⟩ = false := hM.res.frozen 7
          have HM := Lib.hid hM
          clear hM hlt
          rw [show ((8 : Nat) : Int) = 8 from rfl]
          go_wp2_with fail
          have hr := rowIs_set8 HM.out.res (⟨addAt ⟨a0, b0, c0, d0, e0, f0, g0, h0⟩ vv 8 0, addAt ⟨a0, b0, c0, d0, e0, f0, g0, h0⟩ vv 8 1, addAt ⟨a0, b0, c0, d0, e0, f0, g0, h0⟩ vv 8 2, addAt ⟨a0, b0, c0, d0, e0, f0, g0, h0⟩ vv 8 3,
            addAt ⟨a0, b0, c0, d0, e0, f0, g0, h0⟩ vv 8 4, addAt ⟨a0, b0, c0, d0, e0, f0, g0, h0⟩ vv 8 5, addAt ⟨a0, b0, c0, d0, e0, f0, g0, h0⟩ vv 8 6, addAt ⟨a0, b0, c0, d0, e0, f0, g0, h0⟩ vv 8 7⟩ : St)
          refine bodyPost_ret (results_cell_row rfl _ _ (w.heap.size + 1) _ _ (0, 0) _ rfl (rowIs8_heap hr) Try.underlying94 rfl (by kernel_rfl)) rfl ⟨?_, ?_⟩
          · show _ = Ending.returned (stV (addSt _ (comp _ _ _)))
            rw [HVV.out]
            rfl
          · refine ((((((((HM.out.bel.setCell ?_ _).setCell ?_ _).setCell ?_ _).setCell ?_ _).setCell ?_ _).setCell ?_ _).setCell ?_ _).setCell ?_ _) <;> simp
end Go.Proofs.Ytnhggaghidbniaa
