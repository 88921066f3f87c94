/- Prune of the reference; a number in a list of numbers; what a peer lacks, of the program. -/
import Derived.Test.YtoamjdjmfhdaeaaGosA
namespace Go.Proofs.Ytoamjdjmfhdaeaa
open Go.RowKit
set_option linter.unusedVariables false
set_option linter.unusedSimpArgs false
open ShaW Sha

set_option maxRecDepth 100000 in
set_option maxHeartbeats 4000000 in
attribute [local go_sem ↓] wp_load_k in
theorem rprune_any (w : World) (A : Option Addr) (m c : Nat) (ps : List Ky) (h : KeysAt w A m c ps) (hm47 : m ≤ 977343669106) (A' : Option Addr) (m' c' : Nat) (l : List EItem) (h' : EntsAt w A' m' c' l) :
    Calls Try.prog 12 #[.slice A m c, .slice A' m' c'] w fun e w' => ∃ v, e = .returned v ∧ KeysOut w w' v (pruneK ps l) := by
  obtain ⟨i0, hi0, hz0, hz1, hz2⟩ := info_parts key_info
  have HI0 := Lib.hid hi0
  have HZ0 := Lib.hid hz0
  have HK := Lib.hid h
  have HE := Lib.hid h'
  have HL := Lib.hid h.1
  clear h h' hi0 hz0
  go_enter Try.func12, Try.ntmps12
  go_wp2_with fail
  go_loopw [5, 10] (fun v i wq => ∃ j : Nat, j ≤ m ∧ i = .int .i64 (j : Int) ∧ PrAt w wq v ((ps.take j).filter (hasK (entKeys l)))) (fun _ i _ => m - (intOf i).toNat)
  case atStart => exact ⟨0, by omega, rfl, Below.refl _ _, OwnK.nil _ _⟩
  case round =>
    obtain ⟨j, hj, rfl, hbq, hoq⟩ := hrel
    have HBQ := Lib.hid hbq
    have HOQ := Lib.hid hoq
    have hzq := hbq.size
    clear hbq hoq
    rcases Nat.lt_or_ge j m with hlt | hge
    · have hlt' : (j : Int) < m := by omega
      have hj0 : (0 : Int) ≤ j := by omega
      obtain ⟨g, o, hA, hat⟩ := HK.out.at_
      obtain rfl := hA (by omega)
      obtain ⟨kk, hkk, hcell⟩ := hat j hlt
      have hc2 : ∀ i u, (bytesOf 32 kk)[i]? = some u → wr.cell? ((⟨g, o + j * 32, none⟩ : Addr).add i) = some u := fun i u hu => (HBQ.out.cell (p := (⟨g, o + j * 32, none⟩ : Addr).add i) (World.block_lt_of_cell? w _ (hcell i u hu))).trans (hcell i u hu)
      have HKK := Lib.hid hkk
      have q1 := keyOk_mk hc2
      have q2 := loadK_eq hc2
      clear hA hat hkk hcell hc2
      go_upto_region 5 with (refine wpList_store_rowTo rfl 41 (.tmp 7) (.tmp 13) rfl rfl wr.heap.size (bytesOf 32 kk).toArray rfl rfl _ _ (heap_alloc_new _ _) (by rw [keyV_size]; kernel_rfl) (by rw [keyV_size]; kernel_rfl) (keyV_one _) ?_)
      generalize hwc : World.setRow _ _ _ = wc
      have hbk : Blk wc wr.heap.size 41 (bytesOf 32 kk).toArray := by rw [← hwc]; exact (setRow_same _ _ _ _ _ (heap_alloc_new _ _))
      have hbc : Below wr.heap.size wr wc := by rw [← hwc]; exact below_setRow ((Below.refl _ _).alloc (Nat.le_refl _) _) (Nat.le_refl _) _
      have HBK := Lib.hid hbk
      have r1 := keyOk_mk (blk_key hbk)
      have r2 := loadK_eq (blk_key hbk)
      have HEC := Lib.hid (HE.out.below (HBQ.out.trans (hbc.mono hzq)))
      have HOC := Lib.hid (HOQ.out.below hbc)
      have HBC := Lib.hid (HBQ.out.trans (hbc.mono hzq))
      have hzc := HBC.out.size
      clear hwc hbk hbc
      go_wp2_with fail
      refine (rat_any wc A' m' c' l HEC.out kk).mono ?_
      rintro e wd ⟨r, rfl, hbd, hr⟩
      have hkd := HBK.out.below hbd HBK.out.lt
      have s1 := keyOk_mk (blk_key hkd)
      have s2 := loadK_eq (blk_key hkd)
      have HOD := Lib.hid (HOC.out.below hbd)
      have HBD := Lib.hid (HBC.out.trans (hbd.mono hzc))
      have hzd := HBD.out.size
      have hfl : ((ps.take j).filter (hasK (entKeys l))).length ≤ 977343669106 := by have := filter_take_le (f := hasK (entKeys l)) (l := ps) (n := j); omega
      obtain ⟨b, hb⟩ : ∃ b, hasK (entKeys l) kk = b := ⟨_, rfl⟩
      rw [hb] at hr
      have HBB := Lib.hid hb
      clear hbd hkd hb q1 q2 r1 r2
      rcases b with _ | _
      · have hr' : ¬ 0 ≤ r := of_decide_eq_false hr
        have hr2 : r < 0 := by omega
        go_wp2_with fail
        go_roundw
        case rel =>
          refine ⟨j + 1, by omega, by go_num, HBD.out, ?_⟩
          rw [filter_snoc HKK.out, HBB.out, if_neg (by simp), List.append_nil]
          exact HOD.out
        case measure => simp [intOf]; omega
      · have hr' : 0 ≤ r := of_decide_eq_true hr
        go_wp2_with (first
          | (refine wpList_buildSlice rfl 23 41 1 _ rfl (bytesOf 32 kk).toArray i0 _ Try.underlying23 HI0.out HZ0.out (by rw [hz1]; omega) (by rw [hz1]; omega) (by simp only [List.map_toArray, List.map_cons, List.map_nil]; exact key_fill kk i0 hz1) ?_)
          | (at_builtin
             refine wpList_app_key rfl (.tmp 18) (.tmp 20) rfl w.heap.size _ _ rfl HOD.out kk rfl hfl hzd ?_
             intro v3 w3 ho3 hb3
             have HO3 := Lib.hid ho3
             have HB3 := Lib.hid (HBD.out.trans hb3)
             clear ho3 hb3))
        go_roundw
        case rel =>
          refine ⟨j + 1, by omega, by go_num, HB3.out, ?_⟩
          rw [filter_snoc HKK.out, HBB.out, if_pos rfl]
          exact HO3.out
        case measure => simp [intOf]; omega
    · obtain rfl : j = m := by omega
      have hge' : ¬ (j : Int) < j := by omega
      have hoq := HOQ.out
      rw [List.take_of_length_le (by rw [HL.out]; omega)] at hoq
      have HOF := Lib.hid hoq
      clear hoq
      go_wp2_with fail
      go_ret
      exact ⟨_, rfl, HBQ.out, HOF.out⟩

theorem ints_at {w : World} {B : Nat} {A : Option Addr} {n : Nat} {ps : List Int} (h : Reads w B 1 A n (intsV ps)) {j : Nat} (hj : j < n) : ∃ ad x, A = some ad ∧ ps[j]? = some x ∧ w.cell? (ad.add j) = some (.int .i64 x) := by
  obtain ⟨ad, u, hA, _, hu, hc⟩ := h.at_ hj
  unfold intsV at hu
  rw [List.getElem?_map] at hu
  obtain ⟨x, hx, rfl⟩ := Option.map_eq_some_iff.1 hu
  exact ⟨ad, x, hA, hx, hc⟩
theorem hasI_snoc {ps : List Int} {n : Nat} {x : Int} (h : ps[n]? = some x) (p : Int) : hasI (ps.take (n + 1)) p = (hasI (ps.take n) p || x == p) := by
  obtain ⟨hlt, e⟩ := List.getElem?_eq_some_iff.1 h
  unfold hasI
  rw [List.take_succ_eq_append_getElem hlt, e, List.any_append]; simp
theorem hasI_more {ps : List Int} {n : Nat} {p : Int} (h : hasI (ps.take n) p = true) : hasI ps p = true := by
  unfold hasI at h ⊢
  obtain ⟨y, hy, hy2⟩ := List.any_eq_true.1 h
  exact List.any_eq_true.2 ⟨y, List.mem_of_mem_take hy, hy2⟩
theorem intsV_length_eq {w : World} {B : Nat} {A : Option Addr} {n : Nat} {ps : List Int} (h : Reads w B 1 A n (intsV ps)) : ps.length = n := by
  have := h.1
  rw [intsV_len] at this
  omega
set_option maxRecDepth 100000 in
theorem hasInt_any (w : World) (A : Option Addr) (n c : Nat) (ps : List Int) (h : Reads w w.heap.size 1 A n (intsV ps)) (hn : n ≤ 9223372036854775807) (p : Int) :
    Calls Try.prog 26 #[.slice A n c, .int .i64 p] w fun e w' => e = .returned (.bool (hasI ps p)) ∧ w = w' := by
  have HR := Lib.hid h
  have HL := Lib.hid (intsV_length_eq h)
  obtain ⟨R, hR⟩ : ∃ R, hasI ps p = R := ⟨_, rfl⟩
  rw [hR]
  have HRR := Lib.hid hR
  clear h hR
  go_enter Try.func26, Try.ntmps26
  go_wp2_with fail
  go_loop [9] (fun i => ∃ k : Nat, k ≤ n ∧ i = .int .i64 (k : Int) ∧ hasI (ps.take k) p = false) (fun i => n - (intOf i).toNat)
  case atStart => exact ⟨0, by omega, rfl, rfl⟩
  case round =>
    obtain ⟨k, hk, rfl, hno⟩ := hrel
    have HNO := Lib.hid hno
    clear hno
    rcases Nat.lt_or_ge k n with hlt | hge
    · have hlt' : (k : Int) < n := by omega
      have hk0 : (0 : Int) ≤ k := by omega
      obtain ⟨ad, x, rfl, hx, hc⟩ := ints_at HR.out hlt
      have hs := hasI_snoc hx p
      rw [HNO.out, Bool.false_or] at hs
      have HS := Lib.hid hs
      clear hx hs
      by_cases he : x = p
      · have h1 := HS.out
        rw [beq_iff_eq.2 he] at h1
        have HF := Lib.hid (HRR.out.symm.trans (hasI_more h1))
        clear h1
        go_wp2_with fail
        go_ret
        refine ⟨?_, rfl⟩
        rw [HF.out]; rfl
      · go_wp2_with fail
        go_round
        case rel => exact ⟨k + 1, by omega, by go_num, by rw [HS.out]; exact beq_eq_false_iff_ne.2 he⟩
        case measure => simp [intOf]; omega
    · have hge' : ¬ (k : Int) < n := by omega
      obtain rfl : k = n := by omega
      have hno := HNO.out
      rw [List.take_of_length_le (by rw [HL.out]; omega), HRR.out] at hno
      subst hno
      go_wp2_with fail
      go_ret
      exact ⟨rfl, rfl⟩
set_option maxRecDepth 100000 in
theorem iindex_any (w : World) (A : Option Addr) (n c : Nat) (ps : List Int) (h : Reads w w.heap.size 1 A n (intsV ps)) (hn : n ≤ 9223372036854775807) (p : Int) :
    Calls Try.prog 36 #[.slice A n c, .int .i64 p] w fun e w' => ∃ r : Int, e = .returned (.int .i64 r) ∧ w = w' ∧ decide (0 ≤ r) = hasI ps p := by
  have HR := Lib.hid h
  have HL := Lib.hid (intsV_length_eq h)
  clear h
  go_enter Try.func36, Try.ntmps36
  go_wp2_with fail
  go_loop [8] (fun i => ∃ k : Nat, k ≤ n ∧ i = .int .i64 (k : Int) ∧ hasI (ps.take k) p = false) (fun i => n - (intOf i).toNat)
  case atStart => exact ⟨0, by omega, rfl, rfl⟩
  case round =>
    obtain ⟨k, hk, rfl, hno⟩ := hrel
    have HNO := Lib.hid hno
    clear hno
    rcases Nat.lt_or_ge k n with hlt | hge
    · have hlt' : (k : Int) < n := by omega
      have hk0 : (0 : Int) ≤ k := by omega
      obtain ⟨ad, x, rfl, hx, hc⟩ := ints_at HR.out hlt
      have hs := hasI_snoc hx p
      rw [HNO.out, Bool.false_or] at hs
      have HS := Lib.hid hs
      clear hx hs
      by_cases he : p = x
      · have h1 := HS.out
        rw [beq_iff_eq.2 he.symm] at h1
        have HF := Lib.hid (hasI_more h1)
        clear h1
        subst he
        go_wp2_with fail
        go_ret
        refine ⟨_, rfl, rfl, ?_⟩
        rw [HF.out]
        exact decide_eq_true hk0
      · go_wp2_with fail
        go_round
        case rel => exact ⟨k + 1, by omega, by go_num, by rw [HS.out]; exact beq_eq_false_iff_ne.2 (fun e => he e.symm)⟩
        case measure => simp [intOf]; omega
    · have hge' : ¬ (k : Int) < n := by omega
      obtain rfl : k = n := by omega
      have hno := HNO.out
      rw [List.take_of_length_le (by rw [HL.out]; omega)] at hno
      have HNF := Lib.hid hno
      clear hno
      go_wp2_with fail
      go_ret
      exact ⟨-1, rfl, rfl, by rw [HNF.out]; rfl⟩
set_option maxRecDepth 100000 in
theorem icontains_any (w : World) (A : Option Addr) (n c : Nat) (ps : List Int) (h : Reads w w.heap.size 1 A n (intsV ps)) (hn : n ≤ 9223372036854775807) (p : Int) :
    Calls Try.prog 31 #[.slice A n c, .int .i64 p] w fun e w' => e = .returned (.bool (hasI ps p)) ∧ w = w' := by
  have HR := Lib.hid h
  obtain ⟨R, hR⟩ : ∃ R, hasI ps p = R := ⟨_, rfl⟩
  rw [hR]
  have HRR := Lib.hid hR
  clear h hR
  go_enter Try.func31, Try.ntmps31
  go_wp2_with fail
  refine (iindex_any w A n c ps HR.out hn p).mono ?_
  rintro e w1 ⟨r, rfl, rfl, hr⟩
  rw [HRR.out] at hr
  subst hr
  clear HRR
  go_wp2_with fail
  go_ret
  exact ⟨rfl, rfl⟩
end Go.Proofs.Ytoamjdjmfhdaeaa
