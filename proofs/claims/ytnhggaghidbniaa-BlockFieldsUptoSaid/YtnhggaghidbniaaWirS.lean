/- wire.read. -/
import Derived.Test.YtnhggaghidbniaaWirR
namespace Go.Proofs.Ytnhggaghidbniaa
open Go.RowKit
set_option linter.unusedVariables false
set_option linter.unusedSimpArgs false
open Wir

theorem vread_ok {w : World} {v : Value} {b : List UInt8} (hs : SeeB w v b) {n s : Nat} (h : readV b = .ok n s) :
    Calls Try.prog 57 #[v] w fun e w' => e = .returned (.tuple #[.int .u64 (n : Int), .int .i64 (s : Int), .int .i64 0]) ∧ w = w' :=
  (vread_any w v b hs).mono fun e w' hh => by unfold VRead at hh; rw [h] at hh; exact hh
theorem vread_bad {w : World} {v : Value} {b : List UInt8} (hs : SeeB w v b) {c : Int} (h : readV b = .bad c) :
    Calls Try.prog 57 #[v] w fun e w' => e = .returned (.tuple #[.int .u64 0, .int .i64 0, .int .i64 c]) ∧ w = w' :=
  (vread_any w v b hs).mono fun e w' hh => by unfold VRead at hh; rw [h] at hh; exact hh
theorem rread_ok {w : World} {v : Value} {b : List UInt8} (hs : SeeB w v b) {n s : Nat} (h : readV b = .ok n s) :
    Calls Try.prog 44 #[v] w fun e w' => e = .returned (.tuple #[.int .u64 (n : Int), .int .i64 (s : Int), .int .i64 0]) ∧ w = w' :=
  (rread_any w v b hs).mono fun e w' hh => by unfold VRead at hh; rw [h] at hh; exact hh
theorem rread_bad {w : World} {v : Value} {b : List UInt8} (hs : SeeB w v b) {c : Int} (h : readV b = .bad c) :
    Calls Try.prog 44 #[v] w fun e w' => e = .returned (.tuple #[.int .u64 0, .int .i64 0, .int .i64 c]) ∧ w = w' :=
  (rread_any w v b hs).mono fun e w' hh => by unfold VRead at hh; rw [h] at hh; exact hh
theorem fld_new (w : World) : Blk (w.alloc (.cells #[.int .i64 0, .int .i64 0, .int .u64 0, .slice none 0 0] 50)) w.heap.size 50 #[.int .i64 0, .int .i64 0, .int .u64 0, .slice none 0 0] := heap_alloc_new _ _

theorem OwnB.far {w : World} {base : Nat} {v : Value} {b : List UInt8} (h : OwnB w base v b) {g : Nat} {cs : Array Value} (hk : Blk w g 50 cs) (i : Nat) (u : Value) : OwnB (w.setCell ⟨g, i, none⟩ u) base v b := by
  have h' : w.ownsRow base 5 1 v b.length (bytesL b) := h
  exact owns_only h' ((Only.refl (fun k => k = g) w).setCell_ (p := ⟨g, i, none⟩) (.inl rfl) u) (fun k hk2 e => own_blk_ne h' hk (by decide) (e ▸ hk2))
theorem OwnB.farRow {w : World} {base : Nat} {v : Value} {b : List UInt8} (h : OwnB w base v b) {g : Nat} {cs : Array Value} (hk : Blk w g 50 cs) (cs' : Array Value) : OwnB (w.setRow g cs') base v b := by
  have h' : w.ownsRow base 5 1 v b.length (bytesL b) := h
  exact owns_only h' ((Only.refl (fun k => k = g) w).setRow_ (.inl rfl) cs') (fun k hk2 e => own_blk_ne h' hk (by decide) (e ▸ hk2))

set_option maxRecDepth 100000 in
set_option maxHeartbeats 4000000 in
theorem wread_any (w : World) (v : Value) (b : List UInt8) (hs : SeeB w v b) (hb : b.length ≤ 1073741824) :
    Calls Try.prog 41 #[v] w (FRead w (readF b)) := by
  have HS := Lib.hid hs
  have hlen := hs.len_
  clear hs
  go_enter Try.func41, Try.ntmps41
  go_upto_region 1 with (fail)
  generalize hw1 : World.alloc _ _ = w1
  have HB1 : Hid (Below w.heap.size w w1) := Lib.hid (by rw [← hw1]; exact (Below.refl _ _).alloc (Nat.le_refl _) _)
  have hk1 : Blk w1 w.heap.size 50 #[.int .i64 0, .int .i64 0, .int .u64 0, .slice none 0 0] := by rw [← hw1]; exact fld_new w
  obtain ⟨g, hg⟩ : ∃ g, w.heap.size = g := ⟨_, rfl⟩
  have HGG : Hid (w.heap.size ≤ g) := Lib.hid (by omega)
  rw [hg] at hk1 ⊢
  have HK1 := Lib.hid hk1
  have HS1 := Lib.hid (HS.out.below HB1.out)
  have HS0 := HS
  clear hw1 hk1 hg HS
  cases hV : readV b with
  | bad c =>
    have hc := readV_bad hV
    rcases hc with rfl | rfl | rfl
    · go_wp2_with fail
      refine (vread_bad HS1.out hV).mono ?_
      rintro e w2 ⟨rfl, rfl⟩
      go_wp2_with (refine wpList_store_rowTo rfl 50 (.tmp 2) (.tmp 19) rfl rfl g #[.int .i64 0, .int .i64 0, .int .u64 0, .slice none 0 0] rfl rfl _ _ HK1.out (by kernel_rfl) rfl (by kernel_rfl) ?_)
      generalize hwz : World.setRow _ _ _ = wz
      obtain ⟨hbz, hkz⟩ : Below w.heap.size w wz ∧ Blk wz g 50 #[.int .i64 0, .int .i64 0, .int .u64 0, .slice none 0 0] := by
        rw [← hwz]
        exact row_step HB1.out HGG.out HK1.out _
      clear hwz
      refine bodyPost_ret (results_cell_tmp2 rfl _ _ g _ _ (0, 0) _ rfl hkz Try.underlying50 rfl (by kernel_rfl)) rfl ⟨hbz, ?_⟩
      rw [readF_bad1 hV]
      exact ⟨by decide, rfl⟩
    · go_wp2_with fail
      refine (vread_bad HS1.out hV).mono ?_
      rintro e w2 ⟨rfl, rfl⟩
      go_wp2_with (refine wpList_store_rowTo rfl 50 (.tmp 2) (.tmp 19) rfl rfl g #[.int .i64 0, .int .i64 0, .int .u64 0, .slice none 0 0] rfl rfl _ _ HK1.out (by kernel_rfl) rfl (by kernel_rfl) ?_)
      generalize hwz : World.setRow _ _ _ = wz
      obtain ⟨hbz, hkz⟩ : Below w.heap.size w wz ∧ Blk wz g 50 #[.int .i64 0, .int .i64 0, .int .u64 0, .slice none 0 0] := by
        rw [← hwz]
        exact row_step HB1.out HGG.out HK1.out _
      clear hwz
      refine bodyPost_ret (results_cell_tmp2 rfl _ _ g _ _ (0, 0) _ rfl hkz Try.underlying50 rfl (by kernel_rfl)) rfl ⟨hbz, ?_⟩
      rw [readF_bad1 hV]
      exact ⟨by decide, rfl⟩
    · go_wp2_with fail
      refine (vread_bad HS1.out hV).mono ?_
      rintro e w2 ⟨rfl, rfl⟩
      go_wp2_with (refine wpList_store_rowTo rfl 50 (.tmp 2) (.tmp 19) rfl rfl g #[.int .i64 0, .int .i64 0, .int .u64 0, .slice none 0 0] rfl rfl _ _ HK1.out (by kernel_rfl) rfl (by kernel_rfl) ?_)
      generalize hwz : World.setRow _ _ _ = wz
      obtain ⟨hbz, hkz⟩ : Below w.heap.size w wz ∧ Blk wz g 50 #[.int .i64 0, .int .i64 0, .int .u64 0, .slice none 0 0] := by
        rw [← hwz]
        exact row_step HB1.out HGG.out HK1.out _
      clear hwz
      refine bodyPost_ret (results_cell_tmp2 rfl _ _ g _ _ (0, 0) _ rfl hkz Try.underlying50 rfl (by kernel_rfl)) rfl ⟨hbz, ?_⟩
      rw [readF_bad1 hV]
      exact ⟨by decide, rfl⟩
  | ok n s =>
    obtain ⟨n64, hs1, hsb, _, hs0⟩ := readV_inv hV
    clear hs1
    have a7 := and7 n n64
    have a9 := shr3 n
    obtain ⟨K, hK⟩ : ∃ K, n % 8 = K := ⟨_, rfl⟩
    obtain ⟨N, hN⟩ : ∃ N, n / 8 = N := ⟨_, rfl⟩
    rw [hK] at a7
    rw [hN] at a9
    have a9b : (n : Int) / 8 = (N : Int) := by omega
    have hK8 : K < 8 := by omega
    have HK := Lib.hid hK
    have HN := Lib.hid hN
    have hN60 : N < 2305843009213693952 := by omega
    have a8 : IntKind.i64.wrap (K : Int) = (K : Int) := IntWalk.i64_in _ (by omega)
    have a10 : IntKind.i64.wrap (N : Int) = (N : Int) := IntWalk.i64_in _ (by omega)
    clear hK hN n64
    by_cases h1 : N < 1
    · have t1 : (N : Int) < 1 := by omega
      go_wp2_with fail
      refine (vread_ok HS1.out hV).mono ?_
      rintro e w2 ⟨rfl, rfl⟩
      go_wp2_with (refine wpList_store_rowTo rfl 50 (.tmp 2) (.tmp 40) rfl rfl g #[.int .i64 0, .int .i64 0, .int .u64 0, .slice none 0 0] rfl rfl _ _ HK1.out (by kernel_rfl) rfl (by kernel_rfl) ?_)
      generalize hwz : World.setRow _ _ _ = wz
      obtain ⟨hbz, hkz⟩ : Below w.heap.size w wz ∧ Blk wz g 50 #[.int .i64 0, .int .i64 0, .int .u64 0, .slice none 0 0] := by
        rw [← hwz]
        exact row_step HB1.out HGG.out HK1.out _
      clear hwz
      refine bodyPost_ret (results_cell_tmp2 rfl _ _ g _ _ (0, 0) _ rfl hkz Try.underlying50 rfl (by kernel_rfl)) rfl ⟨hbz, ?_⟩
      rw [readF_bad2 hV (by rw [HK.out, HN.out]; exact .inl h1)]
      exact ⟨by decide, rfl⟩
    by_cases h2 : 536870911 < N
    · have t1 : ¬ (N : Int) < 1 := by omega
      have t2 : (536870911 : Int) < (N : Int) := by omega
      go_wp2_with fail
      refine (vread_ok HS1.out hV).mono ?_
      rintro e w2 ⟨rfl, rfl⟩
      go_wp2_with (refine wpList_store_rowTo rfl 50 (.tmp 2) (.tmp 40) rfl rfl g #[.int .i64 0, .int .i64 0, .int .u64 0, .slice none 0 0] rfl rfl _ _ HK1.out (by kernel_rfl) rfl (by kernel_rfl) ?_)
      generalize hwz : World.setRow _ _ _ = wz
      obtain ⟨hbz, hkz⟩ : Below w.heap.size w wz ∧ Blk wz g 50 #[.int .i64 0, .int .i64 0, .int .u64 0, .slice none 0 0] := by
        rw [← hwz]
        exact row_step HB1.out HGG.out HK1.out _
      clear hwz
      refine bodyPost_ret (results_cell_tmp2 rfl _ _ g _ _ (0, 0) _ rfl hkz Try.underlying50 rfl (by kernel_rfl)) rfl ⟨hbz, ?_⟩
      rw [readF_bad2 hV (by rw [HK.out, HN.out]; exact .inr (.inl h2))]
      exact ⟨by decide, rfl⟩
    by_cases h3 : ¬ (K = 0 ∨ K = 2)
    · have t1 : ¬ (N : Int) < 1 := by omega
      have t2 : ¬ (536870911 : Int) < (N : Int) := by omega
      have t3 : ((K : Int) == 0) = false := beq_eq_false_iff_ne.2 (by omega)
      have t4 : ((K : Int) == 2) = false := beq_eq_false_iff_ne.2 (by omega)
      have t5 : ((K : Int) != 0) = true := bne_iff_ne.2 (by omega)
      have t6 : ((K : Int) != 2) = true := bne_iff_ne.2 (by omega)
      go_wp2_with fail
      refine (vread_ok HS1.out hV).mono ?_
      rintro e w2 ⟨rfl, rfl⟩
      go_wp2_with (refine wpList_store_rowTo rfl 50 (.tmp 2) (.tmp 40) rfl rfl g #[.int .i64 0, .int .i64 0, .int .u64 0, .slice none 0 0] rfl rfl _ _ HK1.out (by kernel_rfl) rfl (by kernel_rfl) ?_)
      generalize hwz : World.setRow _ _ _ = wz
      obtain ⟨hbz, hkz⟩ : Below w.heap.size w wz ∧ Blk wz g 50 #[.int .i64 0, .int .i64 0, .int .u64 0, .slice none 0 0] := by
        rw [← hwz]
        exact row_step HB1.out HGG.out HK1.out _
      clear hwz
      refine bodyPost_ret (results_cell_tmp2 rfl _ _ g _ _ (0, 0) _ rfl hkz Try.underlying50 rfl (by kernel_rfl)) rfl ⟨hbz, ?_⟩
      rw [readF_bad2 hV (by rw [HK.out, HN.out]; exact .inr (.inr h3))]
      exact ⟨by decide, rfl⟩
    have t1 : ¬ (N : Int) < 1 := by omega
    have t2 : ¬ (536870911 : Int) < (N : Int) := by omega
    have HC : Hid (¬ (n / 8 < 1 ∨ 536870911 < n / 8 ∨ ¬ (n % 8 = 0 ∨ n % 8 = 2))) := Lib.hid (by rw [HK.out, HN.out]; omega)
    obtain ⟨v2, hv2, sl1, sl2⟩ := HS0.out.from_ hsb
    have HV2 := Lib.hid hv2
    clear hv2
    have hKK : K = 0 ∨ K = 2 := by omega
    clear h1 h2 h3
    rcases hKK with rfl | rfl
    · have a7 : bits .and .u64 (n : Int) 7 = 0 := a7
      clear a8
      go_wp2_with fail
      refine (vread_ok HS1.out hV).mono ?_
      rintro e w2 ⟨rfl, rfl⟩
      go_upto_region 8 with (refine wpList_store_rowTo rfl 50 (.tmp 2) (.tmp 44) rfl rfl g #[.int .i64 (N : Int), .int .i64 0, .int .u64 0, .slice none 0 0] rfl rfl _ _ HK1.out (by kernel_rfl) rfl (by kernel_rfl) ?_)
      generalize hw3 : World.setRow _ _ _ = w3
      obtain ⟨hb3, hk3⟩ : Below w.heap.size w w3 ∧ Blk w3 g 50 #[.int .i64 (N : Int), .int .i64 0, .int .u64 0, .slice none 0 0] := by
        rw [← hw3]
        exact row_step HB1.out HGG.out HK1.out _
      have HB3 := Lib.hid hb3
      have HK3 := Lib.hid hk3
      have HV3 : Hid (SeeB w3 v2 (b.drop s)) := Lib.hid (HV2.out.below hb3)
      clear hw3 hb3 hk3
      cases hV2 : readV (b.drop s) with
      | bad c =>
        have hc := readV_bad hV2
        rcases hc with rfl | rfl | rfl
        · go_wp2_with fail
          refine (vread_bad HV3.out hV2).mono ?_
          rintro e w4 ⟨rfl, rfl⟩
          go_wp2_with (refine wpList_store_rowTo rfl 50 (.tmp 2) (.tmp 55) rfl rfl g #[.int .i64 0, .int .i64 0, .int .u64 0, .slice none 0 0] rfl rfl _ _ HK3.out (by kernel_rfl) rfl (by kernel_rfl) ?_)
          generalize hwz : World.setRow _ _ _ = wz
          obtain ⟨hbz, hkz⟩ : Below w.heap.size w wz ∧ Blk wz g 50 #[.int .i64 0, .int .i64 0, .int .u64 0, .slice none 0 0] := by
            rw [← hwz]
            exact row_step HB3.out HGG.out HK3.out _
          clear hwz
          refine bodyPost_ret (results_cell_tmp2 rfl _ _ g _ _ (0, 0) _ rfl hkz Try.underlying50 rfl (by kernel_rfl)) rfl ⟨hbz, ?_⟩
          rw [readF_bad3 hV HC.out hV2]
          exact ⟨by decide, rfl⟩
        · go_wp2_with fail
          refine (vread_bad HV3.out hV2).mono ?_
          rintro e w4 ⟨rfl, rfl⟩
          go_wp2_with (refine wpList_store_rowTo rfl 50 (.tmp 2) (.tmp 55) rfl rfl g #[.int .i64 0, .int .i64 0, .int .u64 0, .slice none 0 0] rfl rfl _ _ HK3.out (by kernel_rfl) rfl (by kernel_rfl) ?_)
          generalize hwz : World.setRow _ _ _ = wz
          obtain ⟨hbz, hkz⟩ : Below w.heap.size w wz ∧ Blk wz g 50 #[.int .i64 0, .int .i64 0, .int .u64 0, .slice none 0 0] := by
            rw [← hwz]
            exact row_step HB3.out HGG.out HK3.out _
          clear hwz
          refine bodyPost_ret (results_cell_tmp2 rfl _ _ g _ _ (0, 0) _ rfl hkz Try.underlying50 rfl (by kernel_rfl)) rfl ⟨hbz, ?_⟩
          rw [readF_bad3 hV HC.out hV2]
          exact ⟨by decide, rfl⟩
        · go_wp2_with fail
          refine (vread_bad HV3.out hV2).mono ?_
          rintro e w4 ⟨rfl, rfl⟩
          go_wp2_with (refine wpList_store_rowTo rfl 50 (.tmp 2) (.tmp 55) rfl rfl g #[.int .i64 0, .int .i64 0, .int .u64 0, .slice none 0 0] rfl rfl _ _ HK3.out (by kernel_rfl) rfl (by kernel_rfl) ?_)
          generalize hwz : World.setRow _ _ _ = wz
          obtain ⟨hbz, hkz⟩ : Below w.heap.size w wz ∧ Blk wz g 50 #[.int .i64 0, .int .i64 0, .int .u64 0, .slice none 0 0] := by
            rw [← hwz]
            exact row_step HB3.out HGG.out HK3.out _
          clear hwz
          refine bodyPost_ret (results_cell_tmp2 rfl _ _ g _ _ (0, 0) _ rfl hkz Try.underlying50 rfl (by kernel_rfl)) rfl ⟨hbz, ?_⟩
          rw [readF_bad3 hV HC.out hV2]
          exact ⟨by decide, rfl⟩
      | ok q m =>
        obtain ⟨q64, hm1, hmb, _, hm0⟩ := readV_inv hV2
        clear hm1
        rw [List.length_drop] at hmb
        obtain ⟨t, ht⟩ : ∃ t, s + m = t := ⟨_, rfl⟩
        have HT := Lib.hid ht
        have htb : t ≤ b.length := by omega
        have gt : IntKind.i64.wrap ((s : Int) + (m : Int)) = (t : Int) := by rw [show (s : Int) + m = ((s + m : Nat) : Int) by omega, ht]; exact IntWalk.i64_in _ (by omega)
        clear ht hmb htb hm0 q64
        have c0 := HK3.out.cell 0
        have c1 := HK3.out.cell 1
        have c2 := HK3.out.cell 2
        have c3 := HK3.out.cell 3
        have f2 := HK3.out.frozen 2
        have f3 := HK3.out.frozen 3
        simp only [List.getElem?_toArray, List.getElem?_cons_zero, List.getElem?_cons_succ] at c0 c1 c2 c3
        go_wp2_with fail
        refine (vread_ok HV3.out hV2).mono ?_
        rintro e w4 ⟨rfl, rfl⟩
        go_upto_region 14 with (fail)
        generalize hw5 : World.setCell _ _ _ = w5
        have hb5 : Below w.heap.size w w5 := by rw [← hw5]; exact HB3.out.setCell HGG.out _
        have hk5 : Blk w5 g 50 #[.int .i64 (N : Int), .int .i64 0, .int .u64 (q : Int), .slice none 0 0] := by rw [← hw5]; exact HK3.out.set_ 2 _
        have HB5 := Lib.hid hb5
        have HK5 := Lib.hid hk5
        clear hw5 hb5 hk5 c0 c1 c2 c3 f2 f3
        have c0 := HK5.out.cell 0
        have c1 := HK5.out.cell 1
        have c2 := HK5.out.cell 2
        have c3 := HK5.out.cell 3
        have f2 := HK5.out.frozen 2
        have f3 := HK5.out.frozen 3
        simp only [List.getElem?_toArray, List.getElem?_cons_zero, List.getElem?_cons_succ] at c0 c1 c2 c3
        go_wp2_with (refine wpList_store_rowTo rfl 50 (.tmp 2) (.tmp 64) rfl rfl g #[.int .i64 (N : Int), .int .i64 0, .int .u64 (q : Int), .slice none 0 0] rfl rfl _ _ HK5.out (by kernel_rfl) rfl (by kernel_rfl) ?_)
        generalize hwz : World.setRow _ _ _ = wz
        obtain ⟨hbz, hkz⟩ : Below w.heap.size w wz ∧ Blk wz g 50 #[.int .i64 (N : Int), .int .i64 0, .int .u64 (q : Int), .slice none 0 0] := by
          rw [← hwz]
          exact row_step HB5.out HGG.out HK5.out _
        clear hwz
        refine bodyPost_ret (results_cell_tmp2 rfl _ _ g _ _ (0, 0) _ rfl hkz Try.underlying50 rfl (by kernel_rfl)) rfl ⟨hbz, ?_⟩
        rw [readF_num hV HC.out hV2 HK.out, HN.out, HT.out]
        exact ⟨_, rfl, OwnB.nil _ _⟩
    · have a7 : bits .and .u64 (n : Int) 7 = 2 := a7
      clear a8
      go_wp2_with fail
      refine (vread_ok HS1.out hV).mono ?_
      rintro e w2 ⟨rfl, rfl⟩
      go_upto_region 8 with (refine wpList_store_rowTo rfl 50 (.tmp 2) (.tmp 44) rfl rfl g #[.int .i64 (N : Int), .int .i64 2, .int .u64 0, .slice none 0 0] rfl rfl _ _ HK1.out (by kernel_rfl) rfl (by kernel_rfl) ?_)
      generalize hw3 : World.setRow _ _ _ = w3
      obtain ⟨hb3, hk3⟩ : Below w.heap.size w w3 ∧ Blk w3 g 50 #[.int .i64 (N : Int), .int .i64 2, .int .u64 0, .slice none 0 0] := by
        rw [← hw3]
        exact row_step HB1.out HGG.out HK1.out _
      have HB3 := Lib.hid hb3
      have HK3 := Lib.hid hk3
      have HV3 : Hid (SeeB w3 v2 (b.drop s)) := Lib.hid (HV2.out.below hb3)
      clear hw3 hb3 hk3
      cases hV2 : readV (b.drop s) with
      | bad c =>
        have hc := readV_bad hV2
        rcases hc with rfl | rfl | rfl
        · go_wp2_with fail
          refine (vread_bad HV3.out hV2).mono ?_
          rintro e w4 ⟨rfl, rfl⟩
          go_wp2_with (refine wpList_store_rowTo rfl 50 (.tmp 2) (.tmp 55) rfl rfl g #[.int .i64 0, .int .i64 0, .int .u64 0, .slice none 0 0] rfl rfl _ _ HK3.out (by kernel_rfl) rfl (by kernel_rfl) ?_)
          generalize hwz : World.setRow _ _ _ = wz
          obtain ⟨hbz, hkz⟩ : Below w.heap.size w wz ∧ Blk wz g 50 #[.int .i64 0, .int .i64 0, .int .u64 0, .slice none 0 0] := by
            rw [← hwz]
            exact row_step HB3.out HGG.out HK3.out _
          clear hwz
          refine bodyPost_ret (results_cell_tmp2 rfl _ _ g _ _ (0, 0) _ rfl hkz Try.underlying50 rfl (by kernel_rfl)) rfl ⟨hbz, ?_⟩
          rw [readF_bad3 hV HC.out hV2]
          exact ⟨by decide, rfl⟩
        · go_wp2_with fail
          refine (vread_bad HV3.out hV2).mono ?_
          rintro e w4 ⟨rfl, rfl⟩
          go_wp2_with (refine wpList_store_rowTo rfl 50 (.tmp 2) (.tmp 55) rfl rfl g #[.int .i64 0, .int .i64 0, .int .u64 0, .slice none 0 0] rfl rfl _ _ HK3.out (by kernel_rfl) rfl (by kernel_rfl) ?_)
          generalize hwz : World.setRow _ _ _ = wz
          obtain ⟨hbz, hkz⟩ : Below w.heap.size w wz ∧ Blk wz g 50 #[.int .i64 0, .int .i64 0, .int .u64 0, .slice none 0 0] := by
            rw [← hwz]
            exact row_step HB3.out HGG.out HK3.out _
          clear hwz
          refine bodyPost_ret (results_cell_tmp2 rfl _ _ g _ _ (0, 0) _ rfl hkz Try.underlying50 rfl (by kernel_rfl)) rfl ⟨hbz, ?_⟩
          rw [readF_bad3 hV HC.out hV2]
          exact ⟨by decide, rfl⟩
        · go_wp2_with fail
          refine (vread_bad HV3.out hV2).mono ?_
          rintro e w4 ⟨rfl, rfl⟩
          go_wp2_with (refine wpList_store_rowTo rfl 50 (.tmp 2) (.tmp 55) rfl rfl g #[.int .i64 0, .int .i64 0, .int .u64 0, .slice none 0 0] rfl rfl _ _ HK3.out (by kernel_rfl) rfl (by kernel_rfl) ?_)
          generalize hwz : World.setRow _ _ _ = wz
          obtain ⟨hbz, hkz⟩ : Below w.heap.size w wz ∧ Blk wz g 50 #[.int .i64 0, .int .i64 0, .int .u64 0, .slice none 0 0] := by
            rw [← hwz]
            exact row_step HB3.out HGG.out HK3.out _
          clear hwz
          refine bodyPost_ret (results_cell_tmp2 rfl _ _ g _ _ (0, 0) _ rfl hkz Try.underlying50 rfl (by kernel_rfl)) rfl ⟨hbz, ?_⟩
          rw [readF_bad3 hV HC.out hV2]
          exact ⟨by decide, rfl⟩
      | ok q m =>
        obtain ⟨q64, hm1, hmb, _, hm0⟩ := readV_inv hV2
        clear hm1
        rw [List.length_drop] at hmb
        obtain ⟨t, ht⟩ : ∃ t, s + m = t := ⟨_, rfl⟩
        have HT := Lib.hid ht
        have htb : t ≤ b.length := by omega
        have gt : IntKind.i64.wrap ((s : Int) + (m : Int)) = (t : Int) := by rw [show (s : Int) + m = ((s + m : Nat) : Int) by omega, ht]; exact IntWalk.i64_in _ (by omega)
        obtain ⟨v3, hv3, sm1, sm2⟩ := HS0.out.from_ htb
        have hlen3 := hv3.len_
        have hl3 : (b.drop t).length ≤ 1073741824 := by rw [List.length_drop]; omega
        obtain ⟨rest, hrest⟩ : ∃ rest, b.drop t = rest := ⟨_, rfl⟩
        rw [hrest] at hv3 hlen3 hl3
        have HRE := Lib.hid hrest
        have HV4 := Lib.hid hv3
        have gl : IntKind.u64.wrap (rest.length : Int) = (rest.length : Int) := by rw [IntKind.wrap_u64]; omega
        obtain ⟨rl, hrl⟩ : ∃ rl, rest.length = rl := ⟨_, rfl⟩
        rw [hrl] at hlen3 gl hl3
        have HRL := Lib.hid hrl
        clear ht hmb hm0 hv3 hrest hrl
        by_cases hsh : rl < q
        · have t5 : (rl : Int) < (q : Int) := by omega
          go_wp2_with fail
          refine (vread_ok HV3.out hV2).mono ?_
          rintro e w4 ⟨rfl, rfl⟩
          go_wp2_with (refine wpList_store_rowTo rfl 50 (.tmp 2) (.tmp 74) rfl rfl g #[.int .i64 0, .int .i64 0, .int .u64 0, .slice none 0 0] rfl rfl _ _ HK3.out (by kernel_rfl) rfl (by kernel_rfl) ?_)
          generalize hwz : World.setRow _ _ _ = wz
          obtain ⟨hbz, hkz⟩ : Below w.heap.size w wz ∧ Blk wz g 50 #[.int .i64 0, .int .i64 0, .int .u64 0, .slice none 0 0] := by
            rw [← hwz]
            exact row_step HB3.out HGG.out HK3.out _
          clear hwz
          refine bodyPost_ret (results_cell_tmp2 rfl _ _ g _ _ (0, 0) _ rfl hkz Try.underlying50 rfl (by kernel_rfl)) rfl ⟨hbz, ?_⟩
          rw [readF_short hV HC.out hV2 (by rw [HK.out]; decide) (by rw [HT.out, HRE.out, HRL.out]; exact hsh)]
          exact ⟨by decide, rfl⟩
        · have t5 : ¬ (rl : Int) < (q : Int) := by omega
          obtain ⟨v4, hv4, sn1, sn2⟩ := HV4.out.upto_ (k := q) (by rw [HRL.out]; omega) .u64
          have HV5 := Lib.hid hv4
          obtain ⟨y, hy⟩ : ∃ y, t + q = y := ⟨_, rfl⟩
          have HY := Lib.hid hy
          have gq : IntKind.i64.wrap (q : Int) = (q : Int) := IntWalk.i64_in _ (by omega)
          have gy : IntKind.i64.wrap ((t : Int) + (q : Int)) = (y : Int) := by rw [show (t : Int) + q = ((t + q : Nat) : Int) by omega, hy]; exact IntWalk.i64_in _ (by have := HT.out; have := HRL.out; have h := congrArg List.length HRE.out; rw [List.length_drop] at h; omega)
          clear hv4 hy
          go_wp2_with fail
          refine (vread_ok HV3.out hV2).mono ?_
          rintro e w4 ⟨rfl, rfl⟩
          have hz3 := HB3.out.size
          have hq30 : (rest.take q).length ≤ 1073741824 := by rw [List.length_take]; omega
          go_upto_region 18 with (fail)
          go_wp2_with (at_builtin
                       refine wpList_app_bytes rfl (.const (.slice none 0 0)) (.tmp 77) rfl w.heap.size _ [] rfl (OwnB.nil _ _) _ _ rfl (HV5.out.below HB3.out) (by simp; omega) hz3 ?_
                       intro u6 w6 ho6 hb6 hg6
                       rw [List.nil_append] at ho6
                       refine halted ?_)
          change wpList _ _ _ _ _ _
          obtain ⟨A6, c6, he6⟩ := own_form (show w6.ownsRow w.heap.size 5 1 u6 _ _ from ho6)
          subst he6
          obtain ⟨l6, hl6⟩ : ∃ l6, (rest.take q).length = l6 := ⟨_, rfl⟩
          have ho6' : OwnB w6 w.heap.size (.slice A6 l6 c6) (rest.take q) := by rw [← hl6]; exact ho6
          rw [hl6]
          have hb36 : Below w.heap.size w w6 := HB3.out.trans hb6
          have hk6 : Blk w6 g 50 #[.int .i64 (N : Int), .int .i64 2, .int .u64 0, .slice none 0 0] := HK3.out.grown hg6 (show some g ≠ none from by simp)
          have HB6 := Lib.hid hb36
          have HK6 := Lib.hid hk6
          have HO6 := Lib.hid ho6'
          clear ho6 ho6' hb6 hg6 hb36 hk6 hl6
          have c0 := HK6.out.cell 0
          have c1 := HK6.out.cell 1
          have c2 := HK6.out.cell 2
          have c3 := HK6.out.cell 3
          have f2 := HK6.out.frozen 2
          have f3 := HK6.out.frozen 3
          simp only [List.getElem?_toArray, List.getElem?_cons_zero, List.getElem?_cons_succ] at c0 c1 c2 c3
          go_upto_region 19 with (fail)
          generalize hw7 : World.setCell _ _ _ = w7
          have hb7 : Below w.heap.size w w7 := by rw [← hw7]; exact HB6.out.setCell HGG.out _
          have hk7 : Blk w7 g 50 #[.int .i64 (N : Int), .int .i64 2, .int .u64 0, .slice A6 l6 c6] := by rw [← hw7]; exact HK6.out.set_ 3 _
          have ho7 : OwnB w7 w.heap.size (.slice A6 l6 c6) (rest.take q) := by
            rw [← hw7]
            exact OwnB.far HO6.out HK6.out _ _
          have HB7 := Lib.hid hb7
          have HK7 := Lib.hid hk7
          have HO7 := Lib.hid ho7
          clear hw7 hb7 hk7 ho7 c0 c1 c2 c3 f2 f3
          have c0 := HK7.out.cell 0
          have c1 := HK7.out.cell 1
          have c2 := HK7.out.cell 2
          have c3 := HK7.out.cell 3
          have f2 := HK7.out.frozen 2
          have f3 := HK7.out.frozen 3
          simp only [List.getElem?_toArray, List.getElem?_cons_zero, List.getElem?_cons_succ] at c0 c1 c2 c3
          go_wp2_with (refine wpList_store_rowTo rfl 50 (.tmp 2) (.tmp 80) rfl rfl g #[.int .i64 (N : Int), .int .i64 2, .int .u64 0, .slice A6 l6 c6] rfl rfl _ _ HK7.out (by kernel_rfl) rfl (by kernel_rfl) ?_)
          generalize hwz : World.setRow _ _ _ = wz
          obtain ⟨hbz, hkz⟩ : Below w.heap.size w wz ∧ Blk wz g 50 #[.int .i64 (N : Int), .int .i64 2, .int .u64 0, .slice A6 l6 c6] := by
            rw [← hwz]
            exact row_step HB7.out HGG.out HK7.out _
          have hoz : OwnB wz w.heap.size (.slice A6 l6 c6) (rest.take q) := by
            rw [← hwz]
            exact OwnB.farRow HO7.out HK7.out _
          clear hwz
          refine bodyPost_ret (results_cell_tmp2 rfl _ _ g _ _ (0, 0) _ rfl hkz Try.underlying50 rfl (by kernel_rfl)) rfl ⟨hbz, ?_⟩
          rw [readF_byt hV HC.out hV2 (by rw [HK.out]; decide) (by rw [HT.out, HRE.out, HRL.out]; exact hsh), HN.out, HT.out, HRE.out, HY.out]
          exact ⟨_, rfl, hoz⟩
end Go.Proofs.Ytnhggaghidbniaa
