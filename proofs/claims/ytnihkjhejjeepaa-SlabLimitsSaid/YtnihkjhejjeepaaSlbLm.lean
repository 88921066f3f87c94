/- SlabLimits: the walk. -/
import Derived.Test.YtnihkjhejjeepaaSlbKn
namespace Go.Proofs.Ytnihkjhejjeepaa
open Go.RowKit
set_option linter.unusedVariables false
set_option linter.unusedSimpArgs false
open ShaW Sha

theorem litOf_size (rv : Value) (o : Int) : (litOf rv o).size = 41 := rfl
/-- behind n additions of nothing -/
def LmRel (w : World) (C S n : Nat) (wr : World) : Prop := Below w.heap.size w wr ∧ ∃ m, SlR wr w.heap.size C m ∧ WfR m n ∧ m.most = S ∧ cntP m.pl = min n S
/-- one more -/
theorem lm_step (w : World) (C S n : Nat) (wr : World) (h : LmRel w C S n wr) (hn : n ≤ 600) :
    Calls Try.prog 14 #[.pointer (some ⟨C, 0, none⟩), .agg (litOf (.slice none 0 0) 0)] wr fun ed w' => (∃ v, ed = .returned (.tuple v)) ∧ Only (SFoot wr w.heap.size) wr w' ∧ LmRel w C S (n + 1) w' := by
  obtain ⟨hb, m, hs, hw, hm, hc⟩ := h
  have hz := hb.size
  have e0 := litOf_eq 0 (fun _ => 0) (.slice none 0 0) 0
  have hrd : EntRd wr (entOf 0 (fun _ => 0) 0) (.slice none 0 0) (.slice none 0 0) := ⟨RdT.nil _ _, RdT.nil _ _⟩
  have hsm : Small (entOf 0 (fun _ => 0) 0) := ⟨by decide, by decide⟩
  rw [← e0]
  cases hf : m.full with
  | true =>
    have hc1 : m.most ≤ cntP m.pl := by simpa [RSt.full] using hf
    refine (radd_full wr w.heap.size C m n hs hz hw (by omega) _ _ _ hrd hsm hf).mono ?_
    rintro e w' ⟨rfl, hb'⟩
    exact ⟨⟨_, rfl⟩, Only.of_below _ hb', hb.trans (hb'.mono hz), m, hs.below hb', hw.more (by omega), hm, by omega⟩
  | false =>
    have hc1 : ¬ m.most ≤ cntP m.pl := by simpa [RSt.full] using hf
    refine (radd_ok wr w.heap.size C m n hs hz hw (by omega) _ _ _ hrd hsm hf).mono ?_
    rintro e w' ⟨rfl, ho, hs'⟩
    exact ⟨⟨_, rfl⟩, ho, Only.below_trans hb ho hz SFoot.ge, _, hs', hw.add hf hsm, hm, by rw [cnt_add hw]; omega⟩
set_option maxRecDepth 100000 in
set_option maxHeartbeats 4000000 in
attribute [local go_sem ↓] wp_store_ent in
theorem slabLimits_any (w : World) (z : Int) (h1 : -9223372036854775808 ≤ z ∧ z ≤ 9223372036854775807) (s u : Int) :
    Calls Try.prog 7 #[.int .i64 z, hdl s u] w fun e w' => e = .returned (.bool true) ∧ Below w.heap.size w w' := by
  obtain ⟨p, hp⟩ : ∃ p, placeN z 4 = p := ⟨_, rfl⟩
  have hp4 : p < 4 := by rw [← hp]; exact placeN_lt _ (by omega)
  have HP : Hid (∀ W, Calls Try.prog 26 #[.int .i64 z, .int .i64 4] W fun e w' => e = .returned (.int .i64 (p : Int)) ∧ W = w') := fun W => by
    have := place_any W z 4 h1.1 h1.2 (by omega) (by omega)
    rw [hp] at this
    exact this
  obtain ⟨S, hS⟩ : ∃ S, clampS (511 + (p : Int)) = S := ⟨_, rfl⟩
  have hS2 : (S : Int) = min (511 + (p : Int)) 512 := by rw [← hS]; unfold clampS; omega
  have g1 : IntKind.i64.wrap (511 + (p : Int)) = 511 + (p : Int) := IntWalk.i64_in _ (by omega)
  clear hp h1
  go_enter Try.func7, Try.ntmps7
  go_wp2_with fail
  generalize hwa : World.alloc w _ = wa
  have hba : Below w.heap.size w wa := by rw [← hwa]; exact (Below.refl _ _).alloc (Nat.le_refl _) _
  have hka : Blk wa w.heap.size 43 #[.int .i64 s, .int .i64 u] := by rw [← hwa]; exact heap_alloc_new _ _
  refine (HP.out _).mono ?_
  rintro e w' ⟨rfl, rfl⟩
  clear hwa
  go_wp2_with fail
  have hza := hba.size
  refine (rnew_any wa w.heap.size hza _ (by omega)).mono ?_
  rintro e w1 ⟨rfl, hb1, hs1, hr1⟩
  rw [hS] at hr1
  obtain ⟨C, hC⟩ : ∃ C, wa.heap.size = C := ⟨_, rfl⟩
  rw [hC] at hr1 ⊢
  have HR : Hid (LmRel w C S 0 w1) := ⟨hba.trans (hb1.mono hza), _, hr1, by rw [← hS]; exact wf0 _ 0, rfl, by show 0 = _; omega⟩
  have HK1 := Lib.hid (hka.below hb1 hka.lt)
  have HZ : Hid (w.heap.size < C) := Lib.hid (by rw [← hC]; exact hka.lt)
  have hSS : S ≤ 512 := by omega
  clear hba hka hb1 hs1 hr1 hS
  go_wp2_with fail
  go_loopw [6] (fun i wr => ∃ n : Nat, n ≤ 513 ∧ i = .int .i64 (n : Int) ∧ LmRel w C S n wr ∧ Blk wr w.heap.size 43 #[.int .i64 s, .int .i64 u]) (fun i _ => 513 - (intOf i).toNat)
  case atStart => exact ⟨0, by omega, rfl, HR.out, HK1.out⟩
  case round =>
    obtain ⟨n, hn, rfl, hr, hk⟩ := hrel
    have HRn := Lib.hid hr
    have HKn := Lib.hid hk
    clear hr HR HK1 hk
    rcases Nat.lt_or_ge n 513 with hlt | hge
    · have t1 : (n : Int) < 513 := by omega
      go_wp2_with fail
      refine (lm_step w C S n wr HRn.out (by omega)).mono ?_
      rintro e w3 ⟨⟨v3, rfl⟩, ho3, hr3⟩
      have HR3 := Lib.hid hr3
      have HK3 := Lib.hid (HKn.out.only ho3 (SFoot.not HKn.out (by decide)))
      clear ho3 hr3
      go_wp2_with fail
      go_roundw
      case rel => exact ⟨n + 1, by omega, by go_num, HR3.out, HK3.out⟩
      case measure => simp [intOf]; omega
    · obtain rfl : n = 513 := by omega
      have t1 : ¬ ((513 : Nat) : Int) < 513 := by omega
      obtain ⟨hbr, m, hsr, hwr, hmr, hcr⟩ := HRn.out
      have HBr := Lib.hid hbr
      have HSr := Lib.hid hsr
      have HMr := Lib.hid hmr
      have hcr' : cntP m.pl = S := by omega
      clear hbr hsr hmr hcr HRn
      go_wp2_with fail
      refine (snil_add wr (litOf (.slice none 0 0) 0) rfl).mono ?_
      rintro e w3 ⟨rfl, hb3⟩
      have HB3 := Lib.hid (HBr.out.trans (hb3.mono HBr.out.size))
      have HS3 := Lib.hid (HSr.out.below hb3)
      have hk3 := HKn.out.below hb3 HKn.out.lt
      have HK3 := Lib.hid hk3
      have k0 : w3.cell? ⟨w.heap.size, 0, none⟩ = some (.int .i64 s) := hk3.cell 0
      have k1 : w3.cell? ⟨w.heap.size, 1, none⟩ = some (.int .i64 u) := hk3.cell 1
      have hl3 := hk3.lt
      clear hb3 hk3
      go_wp2_with fail
      generalize hwa : World.alloc w3 _ = w4
      have hba : Below w3.heap.size w3 w4 := by rw [← hwa]; exact (Below.refl _ _).alloc (Nat.le_refl _) _
      have HB4 := Lib.hid (HB3.out.trans (hba.mono HB3.out.size))
      have HS4 := Lib.hid (HS3.out.below hba)
      have HK4 := Lib.hid (HK3.out.below hba hl3)
      clear hwa hba k0 k1
      refine (snil_get w4 s u).mono ?_
      rintro e w5 ⟨rfl, hb5⟩
      have HB5 := Lib.hid (HB4.out.trans (hb5.mono HB4.out.size))
      have HS5 := Lib.hid (HS4.out.below hb5)
      have HK5 := Lib.hid (HK4.out.below hb5 HK4.out.lt)
      have qs := box_sto w5 ent0 (.slice none 0 0) (.slice none 0 0) (entCells_one rfl rfl)
      clear hb5
      go_upto_region 11 with (fail)
      generalize hwa : storeMid _ _ _ = w6
      have hbx := box_end hwa
      have HB6 := Lib.hid (HB5.out.trans (hbx.1.mono HB5.out.size))
      have HS6 := Lib.hid (HS5.out.below hbx.1)
      have hk6 := HK5.out.below hbx.1 HK5.out.lt
      have k0 : w6.cell? ⟨w.heap.size, 0, none⟩ = some (.int .i64 s) := hk6.cell 0
      have k1 : w6.cell? ⟨w.heap.size, 1, none⟩ = some (.int .i64 u) := hk6.cell 1
      clear qs hwa hbx hk6
      go_wp2_with fail
      refine (rlen_any w6 _ C m HS6.out).mono ?_
      rintro e w7 ⟨rfl, rfl⟩
      rw [hcr']
      go_wp2_with fail
      refine (HP.out _).mono ?_
      rintro e w7 ⟨rfl, rfl⟩
      have hz6 := HB6.out.size
      go_wp2_with fail
      all_goals
        refine (snil_rem w6 s u).mono ?_
        rintro e w8 ⟨rfl, hb8⟩
        have HB8 := Lib.hid (HB6.out.trans (hb8.mono hz6))
        clear hb8 k0 k1
        go_wp2_with fail
        refine (snil_handles w8).mono ?_
        rintro e w9 ⟨rfl, rfl⟩
        go_wp2_with fail
        refine (snil_len w8).mono ?_
        rintro e w9 ⟨rfl, rfl⟩
        go_wp2_with fail
        refine (snil_bytes w8).mono ?_
        rintro e w9 ⟨rfl, rfl⟩
        go_wp2_with fail
        refine (known_any w8).mono ?_
        rintro e w9 ⟨rfl, hb9⟩
        have HB9 := Lib.hid (HB8.out.trans (hb9.mono HB8.out.size))
        clear hb9
        go_wp2_with fail
        go_ret
        exact ⟨rfl, HB9.out⟩
end Go.Proofs.Ytnihkjhejjeepaa
