/- The program's header message. -/
import Derived.Test.YtnhggaghidbniaaBlkM
namespace Go.Proofs.Ytnhggaghidbniaa
open Go.RowKit
set_option linter.unusedVariables false
set_option linter.unusedSimpArgs false
open Wir

/-- the state of the header's loops -/
def HdRel (w : World) (g : Nat) (cx : Array Value) (fs : List Fld) (wr : World) (v : Value) : Prop := Below w.heap.size w wr ∧ OwnB wr w.heap.size v (msg fs) ∧ Blk wr g 25 cx
theorem HdRel.step {w wr w' : World} {g : Nat} {cx : Array Value} {fs : List Fld} {v v' : Value} {f : Fld} (h : HdRel w g cx fs wr v) (ho : OwnB w' w.heap.size v' (msg fs ++ enc f)) (hg : wr.grownBy w' v.ownBlock) : HdRel w g cx (fs ++ [f]) w' v' := by
  obtain ⟨h1, h2, h3⟩ := h
  have h2' : wr.ownsRow w.heap.size 5 1 v (msg fs).length (bytesL (msg fs)) := h2
  refine ⟨h1.grown hg h1.size (fun k e => (h2'.lt k e).1), by rw [msg_snoc]; exact ho, ?_⟩
  exact h3.grown hg (fun e => own_blk_ne h2' h3 (by decide) e.symm)
theorem HdRel.below {w wr w' : World} {g : Nat} {cx : Array Value} {fs : List Fld} {v : Value} (h : HdRel w g cx fs wr v) (hb : Below wr.heap.size wr w') : HdRel w g cx fs w' v :=
  ⟨h.1.trans (hb.mono h.1.size), h.2.1.below hb, h.2.2.below hb h.2.2.lt⟩
set_option maxRecDepth 100000 in
set_option maxHeartbeats 4000000 in
attribute [local go_sem ↓] wp_load_k in
theorem bheader_any (w : World) (x : Hd) (hx : x.fits) :
    Calls Try.prog 26 #[hdV x] w fun e w' => ∃ v, e = .returned v ∧ Below w.heap.size w w' ∧ OwnB w' w.heap.size v (headerB x) := by
  obtain ⟨cx, hcx⟩ : ∃ cx, (hdCells x).toArray = cx := ⟨_, rfl⟩
  show Calls _ _ #[.agg (hdCells x).toArray] _ _
  rw [hcx]
  have HCX := Lib.hid hcx
  have hle := headerB_le hx
  have HLE : Hid (∀ k, (msg ((hdFields x).take k)).length ≤ 169) := Lib.hid (fun k => Nat.le_trans (msg_take_le k) hle)
  have HF := Lib.hid (fun j => Hd.fits.num hx j)
  clear hle hx hcx
  go_enter Try.func26, Try.ntmps26
  go_upto_region 2 with (fail)
  generalize hw1 : World.alloc _ _ = w1
  have hb1 : Below w.heap.size w w1 := by rw [← hw1]; exact (Below.refl _ _).alloc (Nat.le_refl _) _
  have hk1 : Blk w1 w.heap.size 25 cx := by rw [← hw1]; exact heap_alloc_new _ _
  obtain ⟨g, hg⟩ : ∃ g, w.heap.size = g := ⟨_, rfl⟩
  have hat : HdAt w1 g 0 x := fun j u hu => by
    rw [← hg, Nat.zero_add, hk1.cell, ← HCX.out]
    exact List.getElem?_toArray.trans hu
  rw [hg] at hk1 ⊢
  have HGG := Lib.hid hg
  have HK1 := Lib.hid hk1
  have HB1 := Lib.hid hb1
  obtain ⟨c0, c1, c2⟩ := hat.num
  have HAT := Lib.hid hat
  clear hw1 hb1 hk1 hat
  have i3 := index_i3 x.h x.t x.p
  have HI3 := Lib.hid i3
  clear i3
  go_wp2_with fail
  go_loopw [3, 15] (fun s i wr => ∃ j : Nat, i = .int .i64 (j : Int) ∧ j ≤ 3 ∧ HdRel w g cx ((hdFields x).take j) wr s) (fun _ i _ => 3 - (intOf i).toNat)
  case atStart => exact ⟨0, rfl, by omega, HB1.out, by rw [List.take_zero]; exact OwnB.nil _ _, HK1.out⟩
  case round =>
    obtain ⟨j, rfl, hj, hr⟩ := hrel
    have HR := Lib.hid hr
    clear hr c0 c1 c2
    rcases Nat.lt_or_ge j 3 with hlt | hge
    · have t1 : (j : Int) < 3 := by omega
      have hidx : ∀ W, (Instr.index 70 (.agg #[.int .i64 x.h, .int .i64 x.t, .int .i64 x.p]) (.int .i64 (j : Int))).run Try.prog W = .ok (.int .i64 (numAt x j)) W := by
        intro W
        match j, hlt with
        | 0, _ => exact (HI3.out W).1
        | 1, _ => exact (HI3.out W).2.1
        | 2, _ => exact (HI3.out W).2.2
      obtain ⟨hn1, hn2⟩ := HF.out j
      have hfs := fields_num x hlt
      have HFS := Lib.hid hfs
      obtain ⟨nn, hnn⟩ : ∃ nn, numAt x j = nn := ⟨_, rfl⟩
      rw [hnn] at hidx hn1 hn2 HFS
      have g1 : IntKind.i64.wrap (1 + (j : Int)) = (j : Int) + 1 := by rw [Int.add_comm]; exact IntWalk.i64_in _ (by omega)
      have hok := numF_okay (i := (j : Int) + 1) (n := nn) (by omega) hn2
      have hll := HLE.out j
      clear hfs hnn hj
      have hcase : ∃ q : Nat, (nn < 0 ∧ q = 0) ∨ (nn = (q : Int)) := by
        rcases Int.lt_or_le nn 0 with h | h
        · exact ⟨0, .inl ⟨h, rfl⟩⟩
        · exact ⟨nn.toNat, .inr (by omega)⟩
      obtain ⟨q, ⟨hneg, rfl⟩ | rfl⟩ := hcase
      · have hfe : numF ((j : Int) + 1) nn = ⟨(j : Int) + 1, 0, 0, []⟩ := by unfold numF; congr 1; omega
        rw [hfe] at HFS hok
        clear hfe
        go_wp2_with fail
        refine (bfield_any wr w.heap.size HR.out.1.size _ _ HR.out.2.1 (by omega) ⟨(j : Int) + 1, 0, 0, []⟩ (.slice none 0 0) (SeeB.nil _) hok.2.1 (by simp) hok.1).mono ?_
        rintro e w2 ⟨v2, rfl, ho2, hg2⟩
        have HR2 := Lib.hid (HR.out.step ho2 hg2)
        clear ho2 hg2
        go_wp2_with fail
        go_roundw
        case rel => exact ⟨j + 1, by go_num, by omega, by rw [HFS.out]; exact HR2.out⟩
        case measure => simp [intOf]; omega
      · have hfe : numF ((j : Int) + 1) (q : Int) = ⟨(j : Int) + 1, 0, q, []⟩ := by unfold numF; congr 1; omega
        rw [hfe] at HFS hok
        have hp0 : (0 : Int) ≤ (q : Int) := by omega
        have g2 : IntKind.u64.wrap (q : Int) = (q : Int) := by rw [IntKind.wrap_u64]; omega
        clear hfe
        go_wp2_with fail
        refine (bfield_any wr w.heap.size HR.out.1.size _ _ HR.out.2.1 (by omega) ⟨(j : Int) + 1, 0, q, []⟩ (.slice none 0 0) (SeeB.nil _) hok.2.1 (by simp) hok.1).mono ?_
        rintro e w2 ⟨v2, rfl, ho2, hg2⟩
        have HR2 := Lib.hid (HR.out.step ho2 hg2)
        clear ho2 hg2
        go_wp2_with fail
        go_roundw
        case rel => exact ⟨j + 1, by go_num, by omega, by rw [HFS.out]; exact HR2.out⟩
        case measure => simp [intOf]; omega
    · obtain rfl : j = 3 := by omega
      have t1 : ¬ ((3 : Nat) : Int) < 3 := by omega
      have hatr : HdAt wr g 0 x := fun i u hu => by
        rw [Nat.zero_add, HR.out.2.2.cell, ← HCX.out]
        exact List.getElem?_toArray.trans hu
      have k1 := hatr.key (s := 3) (fun _ _ => hd_par x)
      have k2 := hatr.key (s := 35) (fun _ _ => hd_txs x)
      have k3 := hatr.key (s := 67) (fun _ _ => hd_app x)
      have k4' := hatr.key (s := 99) (fun _ _ => hd_res x)
      have l1 := keyOk_mk k1
      have l2 := loadK_eq k1
      have l3 := keyOk_mk k2
      have l4 := loadK_eq k2
      have l5 := keyOk_mk k3
      have l6 := loadK_eq k3
      have l7 := keyOk_mk k4'
      have l8 := loadK_eq k4'
      have hbd := built_k4 x.par x.txs x.app x.res
      have hix := index_k4 x.par x.txs x.app x.res
      obtain ⟨c4, hc4⟩ : ∃ c4, (k4 x.par x.txs x.app x.res).toArray = c4 := ⟨_, rfl⟩
      rw [hc4] at hbd
      have HIX : Hid (∀ j : Nat, j < 4 → ∀ W, (Instr.index 71 (.agg c4) (.int .i64 (j : Int))).run Try.prog W = .ok (keyV (keyAt x j)) W) := Lib.hid (fun j hj W => by
        rw [← hc4]
        match j, hj with
        | 0, _ => exact (hix W).1
        | 1, _ => exact (hix W).2.1
        | 2, _ => exact (hix W).2.2.1
        | 3, _ => exact (hix W).2.2.2)
      have HBD := Lib.hid hbd
      clear hatr k1 k2 k3 k4' hbd hix hc4 HI3 HB1 HK1 HAT
      go_upto_region 8 with (refine wpList_buildL rfl 71 [(0, _), (1, _), (2, _), (3, _)] rfl c4 ?_ ?_
                             · refine Eq.trans (congrArg (Program.built _ _) (?_ : _ = [(0, keyV x.par), (1, keyV x.txs), (2, keyV x.app), (3, keyV x.res)])) HBD.out
                               rfl)
      clear l1 l2 l3 l4 l5 l6 l7 l8 HBD
      obtain ⟨wh, hwh⟩ : ∃ wh, wr = wh := ⟨_, rfl⟩
      rw [hwh] at HR ⊢
      clear hwh
      go_loopw [3, 37] (fun s i wq => ∃ j : Nat, i = .int .i64 (j : Int) ∧ j ≤ 4 ∧ HdRel w g cx ((hdFields x).take (3 + j)) wq s) (fun _ i _ => 4 - (intOf i).toNat)
      case atStart => exact ⟨0, rfl, by omega, HR.out⟩
      case round =>
        obtain ⟨j, rfl, hj, hr⟩ := hrel
        have HQ := Lib.hid hr
        clear hr
        rcases Nat.lt_or_ge j 4 with hlt | hge
        · have t1 : (j : Int) < 4 := by omega
          have hidx := HIX.out j hlt
          have hfs := fields_key x hlt
          obtain ⟨kk, hkk⟩ : ∃ kk, keyAt x j = kk := ⟨_, rfl⟩
          rw [hkk] at hidx hfs
          have HFS := Lib.hid hfs
          have g1 : IntKind.i64.wrap (4 + (j : Int)) = (j : Int) + 4 := by rw [Int.add_comm]; exact IntWalk.i64_in _ (by omega)
          have hok := bytF_okay (i := (j : Int) + 4) (b := kL kk) (by omega) (by rw [kL_len]; decide)
          have hll := HLE.out (3 + j)
          clear hfs hkk hj HIX
          go_upto_region 10 with (refine wpList_store_rowTo rfl 23 (.tmp 7) (.tmp 40) rfl rfl wr.heap.size (bytesOf 32 kk).toArray rfl rfl _ _ (heap_alloc_new _ _) (by rw [keyV_size]; kernel_rfl) (by rw [keyV_size]; kernel_rfl) (keyV_one _) ?_)
          generalize hwc : World.setRow _ _ _ = wc
          have hkc : Below wr.heap.size wr wc ∧ Blk wc wr.heap.size 23 (bytesOf 32 kk).toArray := by
            rw [← hwc]
            exact row_step ((Below.refl _ _).alloc (Nat.le_refl _) _) (Nat.le_refl _) (heap_alloc_new _ _) _
          have HC := Lib.hid (HQ.out.below hkc.1)
          have HS := Lib.hid (SeeB.key hkc.2)
          clear hwc hkc HQ
          go_wp2_with fail
          refine (bfield_any wc w.heap.size HC.out.1.size _ _ HC.out.2.1 (by omega) ⟨(j : Int) + 4, 2, 0, kL kk⟩ _ HS.out hok.2.1 (by show (kL kk).length ≤ _; rw [kL_len]; decide) hok.1).mono ?_
          rintro e w2 ⟨v2, rfl, ho2, hg2⟩
          have HR2 := Lib.hid (HC.out.step ho2 hg2)
          clear ho2 hg2
          go_wp2_with fail
          go_roundw
          case rel => exact ⟨j + 1, by go_num, by omega, by rw [← Nat.add_assoc, HFS.out]; exact HR2.out⟩
          case measure => simp [intOf]; omega
        · obtain rfl : j = 4 := by omega
          have t1 : ¬ ((4 : Nat) : Int) < 4 := by omega
          go_wp2_with fail
          go_ret
          have e := HGG.out
          subst e
          exact ⟨_, rfl, HQ.out.1, HQ.out.2.1⟩
end Go.Proofs.Ytnhggaghidbniaa
