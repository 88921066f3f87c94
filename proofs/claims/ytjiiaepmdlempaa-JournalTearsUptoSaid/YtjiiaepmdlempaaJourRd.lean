/- JournalReads: the walk. -/
import Derived.Test.YtjiiaepmdlempaaJourAp
namespace Go.Proofs.Ytjiiaepmdlempaa
open Go.RowKit
set_option linter.unusedVariables false
open ShaW Sha

/-- a slice of bytes whose cells lie in a row -/
def FlatB (w : World) (A : Option Addr) (n c : Nat) (f : Nat → UInt8) : Prop :=
  n ≤ c ∧ c ≤ maxLen ∧ ∃ b o, (0 < n → A = some ⟨b, o, none⟩) ∧ ∀ j, j < n → w.cell? ⟨b, o + j, none⟩ = some (.int .u8 ((f j).toNat : Int))
theorem FlatB.below {w w' : World} {A : Option Addr} {n c : Nat} {f : Nat → UInt8} (h : FlatB w A n c f) (hb : Below w.heap.size w w') : FlatB w' A n c f := by
  obtain ⟨h1, h2, b, o, hA, hc⟩ := h
  exact ⟨h1, h2, b, o, hA, fun j hj => (hb.cell (p := ⟨b, o + j, none⟩) (World.block_lt_of_cell? w _ (hc j hj))).trans (hc j hj)⟩
theorem FlatB.of_own {w : World} {base n c : Nat} {A : Option Addr} {f : Nat → UInt8} (h : w.ownsRow base 5 1 (.slice A n c) n (bytesOf n f)) : FlatB w A n c f := by
  obtain ⟨A', g, c', hv, hA, hc, hm, hcell⟩ := own_bytes h
  injection hv with h1 h2 h3
  subst h1 h3
  exact ⟨hc, hm, g, 0, fun h => (hA h).1, hcell⟩
theorem FlatB.reads {w : World} {A : Option Addr} {n c : Nat} {f : Nat → UInt8} (h : FlatB w A n c f) {u : Nat} (hu : u ≤ n) : Reads w w.heap.size 1 A u (bytesOf u f) := by
  obtain ⟨h1, h2, b, o, hA, hc⟩ := h
  exact Reads.flat (fun h => ⟨hA (by omega), World.block_lt_of_cell? w _ (hc 0 (by omega))⟩) (fun j hj => hc j (by omega))
theorem FlatB.read {w : World} {A : Option Addr} {n c : Nat} {f : Nat → UInt8} (h : FlatB w A n c f) (hn : n ≤ 1099511627776) :
    Calls Try.prog 14 #[.slice A n c] w fun e w' => ReadPost w w' n f e := by
  obtain ⟨h1, h2, b, o, hA, hc⟩ := h
  exact read_g w A b o c n f hA hn h1 h2 hc
theorem FlatB.readlog {w : World} {A : Option Addr} {n c : Nat} {f : Nat → UInt8} (h : FlatB w A n c f) (hn : n ≤ 1099511627776) :
    Calls Try.prog 15 #[.slice A n c] w fun e w' => ReadPost w w' n f e := by
  obtain ⟨h1, h2, b, o, hA, hc⟩ := h
  exact readlog_g w A b o c n f hA hn h1 h2 hc
theorem FlatB.repair {w : World} {A : Option Addr} {n c : Nat} {f : Nat → UInt8} (h : FlatB w A n c f) (hn : n ≤ 1099511627776) :
    Calls Try.prog 17 #[.slice A n c] w fun e w' => ∃ A' c', e = .returned (.slice A' (readFrom n 0 f).2 c') ∧ Below w.heap.size w w' ∧ w'.ownsRow w.heap.size 5 1 (.slice A' (readFrom n 0 f).2 c') (readFrom n 0 f).2 (bytesOf (readFrom n 0 f).2 f) := by
  obtain ⟨h1, h2, b, o, hA, hc⟩ := h
  exact repair_g w A b o c n f hA hn h1 h2 hc
theorem u8_of (a : Int) (h0 : 0 ≤ a) (h1 : a < 256) : ∃ b : UInt8, a = (b.toNat : Int) := ⟨UInt8.ofNat a.toNat, by rw [UInt8.toNat_ofNat', Nat.mod_eq_of_lt (by omega)]; omega⟩
theorem bits_xor_u8 (a b : Int) : ∃ c : UInt8, bits .xor .u8 a b = (c.toNat : Int) := by
  obtain ⟨c, hc⟩ := u8_of (bits .xor .u8 a b) (by unfold bits; rw [IntKind.wrap_u8]; omega) (by unfold bits; rw [IntKind.wrap_u8]; omega)
  exact ⟨c, hc⟩
/-- a byte is changed -/
theorem own_set {w : World} {base n c p : Nat} {A : Option Addr} {f : Nat → UInt8} (h : w.ownsRow base 5 1 (.slice A n c) n (bytesOf n f)) (hp : p < n) :
    ∃ g, A = some ⟨g, 0, none⟩ ∧ base ≤ g ∧ w.cell? ⟨g, p, none⟩ = some (.int .u8 ((f p).toNat : Int)) ∧ w.frozen? ⟨g, p, none⟩ = false ∧ ∀ a b : Int, ∃ F, FlatB (w.setCell ⟨g, p, none⟩ (.int .u8 (bits .xor .u8 a b))) (some ⟨g, 0, none⟩) n c F := by
  rcases h.2 with ⟨hv, h0⟩ | ⟨g, cap, cur, hv, hb, hg, hnc, hcm, hsz, htk⟩
  · omega
  · injection hv with h1 h2 h3
    subst h1 h3
    have hblk : Blk w g 5 cur := hg
    have hcell : ∀ j, j < n → cur[j]? = some (.int .u8 ((f j).toNat : Int)) := by
      intro j hj
      have := h.cells (g := g) rfl j _ (bytesOf_get f hj)
      rw [add_flat, Nat.zero_add] at this
      exact (hblk.cell j).symm.trans this
    refine ⟨g, rfl, hb, (hblk.cell p).trans (hcell p hp), hblk.frozen p, fun a b => ?_⟩
    obtain ⟨x, hx⟩ := bits_xor_u8 a b
    rw [hx]
    refine ⟨fun j => if j = p then x else f j, hnc, hcm, g, 0, fun _ => rfl, fun j hj => ?_⟩
    rw [Nat.zero_add, (hblk.set_ p _).cell j]
    have hps : p < cur.size := (Array.getElem?_eq_some_iff.1 (hcell p hp)).1
    by_cases hjp : j = p
    · subst hjp
      rw [Array.getElem?_setIfInBounds_self_of_lt hps]
      simp
    · rw [Array.getElem?_setIfInBounds_ne (Ne.symm hjp), hcell j hj]
      simp [hjp]

set_option maxRecDepth 100000 in
set_option maxHeartbeats 2000000 in
theorem jourReads_pos (w : World) (A0 A2 : Option Addr) (n0 c0 n2 c2 : Nat) (f0 f2 : Nat → UInt8) (v1 : Value) (n1 : Nat) (L : Nat → Nat) (F : Nat → Nat → UInt8) (t : Int) (y : Int)
    (hr0 : FlatB w A0 n0 c0 f0) (hr2 : FlatB w A2 n2 c2 f2) (h1 : RowsB w v1 n1 L F) (hn0 : n0 ≤ 1048576) (hn2 : n2 ≤ 1048576) (hn1 : n1 ≤ 1048576) (hL : ∀ r, r < n1 → L r ≤ 1048576) (ht1 : -9223372036854775808 ≤ t) (ht2 : t ≤ 9223372036854775807) (hpos : 0 < logLen L n1 + n2) :
    Calls Try.prog 5 #[.slice A0 n0 c0, v1, .slice A2 n2 c2, .int .i64 t, .int .u8 y] w fun e w' => e = .returned (.bool true) ∧ Below w.heap.size w w' := by
  obtain ⟨i0, hi0, hz0, hz1, hz2⟩ := info_parts u8_info
  have hcat := catLen_bound L n1 1048576 hL
  have hcat2 : catLen L n1 ≤ 1099511627776 := Nat.le_trans hcat (Nat.le_trans (Nat.mul_le_mul_right _ hn1) (by omega))
  clear hcat
  have HPOS := Lib.hid hpos
  clear hpos
  have HMANY := Lib.hid (many_any w v1 n1 L F h1 hn1 hcat2)
  have HH1 := Lib.hid h1
  have HR0 := Lib.hid hr0
  have HR2 := Lib.hid hr2
  have HL := Lib.hid hL
  clear hr0 hr2 hL h1
  go_enter Try.func5, Try.ntmps5
  go_wp2_with fail
  refine HMANY.out.mono ?_
  rintro e w' ⟨rfl, rfl⟩
  by_cases hm : 1000 < catLen L n1 ∨ 20 < n1
  · rw [show tooMany L n1 = true from decide_eq_true hm]
    clear hm hcat2
    go_wp2_with fail
    refine (known_any _).mono ?_
    rintro e w3 ⟨rfl, hb4⟩
    go_wp2_with fail
    go_ret
    exact ⟨rfl, hb4⟩
  · rw [show tooMany L n1 = false from decide_eq_false hm]
    have hn20 : n1 ≤ 20 := by omega
    have HLT : Hid (∀ r, r < n1 → L r ≤ 1000) := fun r hr => by have := catLen_ge L hr; omega
    clear hm hcat2
    go_wp2_with fail
    refine (many_any _ _ 2 (two n0 n2) (twoF f0 f2) (two_rows w A0 A2 n0 c0 n2 c2 f0 f2 (HR0.out.reads (Nat.le_refl _)) (HR2.out.reads (Nat.le_refl _))) (by omega) (by rw [two_len]; omega)).mono ?_
    rintro e w' ⟨rfl, rfl⟩
    obtain ⟨wa, hwa⟩ : ∃ wa, w.alloc (.cells #[.slice A0 n0 c0, .slice A2 n2 c2] 22) = wa := ⟨_, rfl⟩
    have hb0 : Below w.heap.size w wa := by rw [← hwa]; exact (Below.refl _ _).alloc (Nat.le_refl _) _
    rw [hwa]
    clear hwa
    have HB0 := Lib.hid hb0
    clear hb0
    by_cases hm : 1000 < n0 + n2
    · rw [show tooMany (two n0 n2) 2 = true from decide_eq_true (.inl (by rw [two_len]; exact hm))]
      go_wp2_with fail
      refine (known_any _).mono ?_
      rintro e w3 ⟨rfl, hb4⟩
      go_wp2_with fail
      go_ret
      exact ⟨rfl, HB0.out.trans (hb4.mono HB0.out.size)⟩
    · rw [show tooMany (two n0 n2) 2 = false from decide_eq_false (by rw [two_len]; omega)]
      go_wp2_with fail
      refine (written_any _ _ n1 L F (HH1.out.below HB0.out) hn20 HLT.out).mono ?_
      rintro e w1 ⟨A3, c3, rfl, hb1, ho1⟩
      have hz0' := HB0.out.size
      have hlog : logLen L n1 ≤ 20160 := by
        have : ∀ k, k ≤ n1 → logLen L k ≤ k * 1008 := by
          intro k
          induction k with
          | zero => intro _; simp [logLen]
          | succ k ih => intro hk; have := ih (by omega); have := HLT.out k (by omega); simp only [logLen]; omega
        have := this n1 (Nat.le_refl _)
        omega
      obtain ⟨lf, hlf⟩ : ∃ lf, logF L F n1 = lf := ⟨_, rfl⟩
      obtain ⟨lg, hlg⟩ : ∃ lg, logLen L n1 = lg := ⟨_, rfl⟩
      have hpos := HPOS.out
      clear HPOS
      rw [hlg] at hlog hpos ⊢
      rw [hlf, hlg] at ho1
      have hb1' := HB0.out.trans (hb1.mono hz0')
      have HB1 := Lib.hid hb1'
      have HO1 := Lib.hid ho1
      have hzw := hb1'.size
      have HRT := Lib.hid ((HR2.out.below hb1'))
      have HOL := Lib.hid (lit_owns w1 5)
      have HRA := Lib.hid ((Reads.of_own ho1).alloc (Nat.le_refl _) (.cells #[] 5))
      clear hlf hlg hb1 ho1 hb1' HLT HH1 HL HMANY
      have hpi : (0 : Int) < (lg : Int) + n2 := by omega
      go_wp2_with (first
        | (at_builtin
           refine wpList_append_any _ rfl (.tmp 30) (.tmp 31) _ rfl w1.heap.size 5 i0 _ 1 1 Try.underlying22 hi0 hz0 hz1 hz2 rfl (by omega) _ 0 [] rfl
             HOL.out w1.heap.size A3 lg c3 _ rfl HRA.out (bytesOf_one _ _) (by unfold maxLen; omega) (by omega) (by simp) ?_
           intro v2 w2 ho2 hg2 hat2
           rw [Nat.zero_add, List.nil_append] at ho2
           have hb2 : Below w1.heap.size w1 w2 := ((Below.refl _ _).alloc (Nat.le_refl _) _).grown hg2 (by rw [World.size_alloc]; omega) (fun g e => by have := Option.some.inj (show some w1.heap.size = some g from e); omega)
           obtain ⟨A4, c4, rfl⟩ := own_form ho2
           have HO2 := Lib.hid ho2
           have HB2 := Lib.hid hb2
           have hz2' := hb2.size
           have HR5 := Lib.hid ((HRT.out.below hb2).reads (Nat.le_refl _))
           clear ho2 hb2 hg2 hat2)
        | (at_builtin
           refine wpList_append_any _ rfl (.tmp 32) (.tmp 33) _ rfl w1.heap.size 5 i0 _ 1 1 Try.underlying22 hi0 hz0 hz1 hz2 rfl (by omega) _ lg _ rfl
             HO2.out _ A2 n2 c2 _ rfl HR5.out (bytesOf_one _ _) (by unfold maxLen; omega) (by omega) hz2' ?_
           intro v3 w3 ho3 hg3 hat3
           rw [bytesOf_glue] at ho3
           have hb3 : Below w1.heap.size w1 w3 := HB2.out.grown hg3 hz2' (fun g e => (HO2.out.lt g e).1)
           obtain ⟨A5, c5, rfl⟩ := own_form ho3
           obtain ⟨g5, rfl, hg5, hy1, hy2, hset⟩ := own_set ho3 (show (t % ((lg + n2 : Nat) : Int)).toNat < lg + n2 by have := Int.emod_nonneg t (show ((lg + n2 : Nat) : Int) ≠ 0 by omega); have := Int.emod_lt_of_pos t (show (0 : Int) < ((lg + n2 : Nat) : Int) by omega); omega)
           have HO3 := Lib.hid ho3
           have HB3 := Lib.hid hb3
           have hz3' := hb3.size
           clear ho3 hb3 hg3 hat3 HO2 HB2 HR5))
      have hpl := place_any t ((lg + n2 : Nat) : Int) ht1 ht2 (by omega) (by omega) w3
      obtain ⟨p, hp⟩ : ∃ p : Nat, t % ((lg + n2 : Nat) : Int) = (p : Int) := ⟨(t % ((lg + n2 : Nat) : Int)).toNat, by have := Int.emod_nonneg t (show ((lg + n2 : Nat) : Int) ≠ 0 by omega); omega⟩
      have hplt : p < lg + n2 := by have := Int.emod_lt_of_pos t (show (0 : Int) < ((lg + n2 : Nat) : Int) by omega); omega
      rw [hp, show ((lg + n2 : Nat) : Int) = (lg : Int) + n2 by omega] at hpl
      rw [hp, show ((p : Int)).toNat = p by omega] at hy1 hy2 hset
      have hpi2 : (p : Int) < (lg : Int) + n2 := by omega
      have HSET := Lib.hid hset
      clear hset hp
      refine hpl.mono ?_
      rintro e w4 ⟨rfl, rfl⟩
      clear hpl
      go_upto_region 7 with (fail)
      obtain ⟨FC, hFC⟩ := HSET.out ((glue lg lf f2 p).toNat : Int) y
      have hb4 : Below w1.heap.size w1 (w3.setCell ⟨g5, p, none⟩ (.int .u8 (bits .xor .u8 ((glue lg lf f2 p).toNat : Int) y))) := HB3.out.setCell hg5 _
      obtain ⟨w4, hw4⟩ : ∃ w4, w3.setCell ⟨g5, p, none⟩ (.int .u8 (bits .xor .u8 ((glue lg lf f2 p).toNat : Int) y)) = w4 := ⟨_, rfl⟩
      rw [hw4] at hFC hb4 ⊢
      clear hw4 hy1 hy2 HSET hplt hpi hpi2 HB3 HO3
      have HFC := Lib.hid hFC
      have hbw := HB1.out.trans (hb4.mono hzw)
      have HB4 := Lib.hid hbw
      have HOL4 := Lib.hid (lit_owns w4 5)
      have HRT4 := Lib.hid (HRT.out.below hb4)
      have HRA4 := Lib.hid (((FlatB.of_own (owns_below HO1.out hb4)).reads (Nat.le_refl _)).alloc (Nat.le_refl _) (.cells #[] 5))
      clear hFC hb4 hbw HRT HRA HOL HO1 HB1
      go_wp2_with (first
        | (at_builtin
           refine wpList_append_any _ rfl (.tmp 49) (.tmp 50) _ rfl w4.heap.size 5 i0 _ 1 1 Try.underlying22 hi0 hz0 hz1 hz2 rfl (by omega) _ 0 [] rfl
             HOL4.out w4.heap.size A3 lg c3 _ rfl HRA4.out (bytesOf_one _ _) (by unfold maxLen; omega) (by omega) (by simp) ?_
           intro v5 w5 ho5 hg5 hat5
           rw [Nat.zero_add, List.nil_append] at ho5
           have hb5 : Below w4.heap.size w4 w5 := ((Below.refl _ _).alloc (Nat.le_refl _) _).grown hg5 (by rw [World.size_alloc]; omega) (fun g e => by have := Option.some.inj (show some w4.heap.size = some g from e); omega)
           obtain ⟨A6, c6, rfl⟩ := own_form ho5
           have HO5 := Lib.hid ho5
           have HB5 := Lib.hid hb5
           have hz5' := hb5.size
           have HR6 := Lib.hid ((HRT4.out.below hb5).reads (Nat.le_refl _))
           clear ho5 hb5 hg5 hat5)
        | (at_builtin
           refine wpList_append_any _ rfl (.tmp 51) (.tmp 52) _ rfl w4.heap.size 5 i0 _ 1 1 Try.underlying22 hi0 hz0 hz1 hz2 rfl (by omega) _ lg _ rfl
             HO5.out _ A2 n2 c2 _ rfl HR6.out (bytesOf_one _ _) (by unfold maxLen; omega) (by omega) hz5' ?_
           intro v6 w6 ho6 hg6 hat6
           rw [bytesOf_glue] at ho6
           have hb6 : Below w4.heap.size w4 w6 := HB5.out.grown hg6 hz5' (fun g e => (HO5.out.lt g e).1)
           obtain ⟨A7, c7, rfl⟩ := own_form ho6
           have HO6 := Lib.hid ho6
           have HB6 := Lib.hid hb6
           have hz6' := hb6.size
           clear ho6 hb6 hg6 hat6 HO5 HB5 HR6))
      obtain ⟨cs3, hcs3⟩ : ∃ cs3 : Array Value, cs3 = #[.slice A0 n0 c0, .slice A7 (lg + n2) c7, .slice (some ⟨g5, 0, none⟩) (lg + n2) c5] := ⟨_, rfl⟩
      rw [← hcs3]
      have hall : ∀ q, q < 3 → ∃ A n c f, cs3[q]? = some (.slice A n c) ∧ n ≤ 2097152 ∧ FlatB w6 A n c f := by
        intro q hq
        have : q = 0 ∨ q = 1 ∨ q = 2 := by omega
        rcases this with rfl | rfl | rfl
        · exact ⟨A0, n0, c0, f0, by rw [hcs3]; rfl, by omega, HR0.out.below (HB4.out.trans (HB6.out.mono HB4.out.size))⟩
        · exact ⟨A7, lg + n2, c7, _, by rw [hcs3]; rfl, by omega, FlatB.of_own HO6.out⟩
        · exact ⟨(some ⟨g5, 0, none⟩), lg + n2, c5, FC, by rw [hcs3]; rfl, by omega, HFC.out.below HB6.out⟩
      have HALL := Lib.hid hall
      have hbo : Below w.heap.size w w6 := HB4.out.trans (HB6.out.mono HB4.out.size)
      have HBO := Lib.hid hbo
      have hzo := hbo.size
      clear hcs3 hall hbo HO6 HB6 HFC HR0 HRT4 HOL4 HRA4 HB4
      have hblk : Blk (w6.alloc (.cells cs3 22)) w6.heap.size 22 cs3 := Blk.new _ _ _
      have hbl0 : Below w6.heap.size w6 (w6.alloc (.cells cs3 22)) := (Below.refl _ _).alloc (Nat.le_refl _) _
      have HBK := Lib.hid hblk
      have HBL := Lib.hid hbl0
      clear hblk hbl0
      go_loopw [57] (fun i wr => ∃ q : Nat, q ≤ 3 ∧ i = .int .i64 (q : Int) ∧ Below w6.heap.size w6 wr ∧ Blk wr w6.heap.size 22 cs3) (fun i _ => 3 - (intOf i).toNat)
      case atStart => exact ⟨0, by omega, rfl, HBL.out, HBK.out⟩
      case round =>
        obtain ⟨q, hq, rfl, hb, hk⟩ := hrel
        clear HBK HBL
        have hz7 := hb.size
        by_cases hlt : q < 3
        · obtain ⟨A, n, c, f, hcell, hn, hfl⟩ := HALL.out q hlt
          have y0 : wr.cell? ⟨w6.heap.size, q, none⟩ = some (.slice A n c) := (hk.cell q).trans hcell
          have hc3 : (q : Int) < 3 := by omega
          have hub := (readFrom_bound n f n 0 (by omega) (by omega))
          have hnc := hfl.1
          have hcm : c ≤ 9223372036854775807 := hfl.2.1
          have HF := Lib.hid (hfl.below hb)
          have HB := Lib.hid hb
          have HK := Lib.hid hk
          clear hfl hb hk hcell
          go_wp2_with fail
          refine (HF.out.read (by omega)).mono ?_
          rintro e w8 ⟨va, rfl, hla, hb8⟩
          have HF8 := Lib.hid (HF.out.below hb8)
          have HLA := Lib.hid hla
          have HB8 := Lib.hid (HB.out.trans (hb8.mono hz7))
          have HK8 := Lib.hid (HK.out.below hb8 HK.out.lt)
          clear hla hb8 HF HB HK
          go_wp2_with fail
          refine (HF8.out.readlog (by omega)).mono ?_
          rintro e w9 ⟨vb, rfl, hlb, hb9⟩
          have HF9 := Lib.hid (HF8.out.below hb9)
          have HB9 := Lib.hid (HB8.out.trans (hb9.mono HB8.out.size))
          have HK9 := Lib.hid (HK8.out.below hb9 HK8.out.lt)
          have HRA9 := Lib.hid ((HLA.out.below hb9).rows.below (belowDrew (Below.refl _ _)))
          have HRB9 := Lib.hid (hlb.rows.below (belowDrew (Below.refl _ _)))
          clear hlb hb9 HLA HF8 HB8 HK8
          have hrep := (HF9.out).below (belowDrew (Below.refl w9.heap.size w9))
          obtain ⟨R, hR⟩ : ∃ R, readFrom n 0 f = R := ⟨_, rfl⟩
          rw [hR] at HRA9 HRB9 hub ⊢
          obtain ⟨rs, u⟩ := R
          have HRE := Lib.hid hR
          have hu2 : u ≤ n := hub.2.1
          have hlenrs : rs.length ≤ n := hub.2.2
          have HFD := Lib.hid hrep
          clear hrep hub hR HF9
          have hui : (u : Int) ≤ c := by omega
          go_wp2_with fail
          go_region_law (first
            | (go_simp; go_at_call 16; refine (samelists_any _ va vb rs.length (rowsL rs) (rowsF rs f) (rowsF rs f) HRA9.out HRB9.out (fun _ _ _ _ => rfl) (by omega)).mono ?_; rintro e w10 ⟨rfl, hb10⟩; have HF10 := Lib.hid (HFD.out.below hb10); have HB10 := Lib.hid (⟨hb10.os, hb10.tape, hb10.output, hb10.size, hb10.block⟩ : Below w9.heap.size w9 w10); have hrep10 := HF10.out.repair (by omega); rw [HRE.out] at hrep10; have HREP10 := Lib.hid hrep10; clear hb10 hrep10)
            | (go_simp; go_at_call 17; refine HREP10.out.mono ?_; rintro e w11 ⟨A11, c11, rfl, hb11, ho11⟩; have HO11 := Lib.hid ho11; have HR11 := Lib.hid ((HF10.out.below hb11).reads hu2); have HB11 := Lib.hid (HB10.out.trans (hb11.mono HB10.out.size)); clear hb11 ho11)
            | (go_simp; go_at_call 12; refine (same_reads _ _ _ u _ _ _ _ f f (Reads.of_own HO11.out) HR11.out (fun _ _ => rfl)).mono ?_; rintro e w12 ⟨rfl, rfl⟩))
          all_goals
            go_wp2_with fail
            go_roundw
            case rel => exact ⟨q + 1, by omega, by go_num, HB9.out.trans (HB11.out.mono HB9.out.size), HK9.out.below HB11.out HK9.out.lt⟩
            case measure => simp [intOf]; omega
        · obtain rfl : q = 3 := by omega
          have HB2 := Lib.hid (HBO.out.trans (hb.mono hzo))
          clear hlt hb hk
          go_wp2_with fail
          refine (known_any _).mono ?_
          rintro e w3 ⟨rfl, hb4⟩
          go_wp2_with fail
          go_ret
          exact ⟨rfl, HB2.out.trans (hb4.mono HB2.out.size)⟩

set_option maxRecDepth 100000 in
set_option maxHeartbeats 2000000 in
theorem jourReads_zero (w : World) (A0 A2 : Option Addr) (n0 c0 n2 c2 : Nat) (f0 f2 : Nat → UInt8) (v1 : Value) (n1 : Nat) (L : Nat → Nat) (F : Nat → Nat → UInt8) (t : Int) (y : Int)
    (hr0 : FlatB w A0 n0 c0 f0) (hr2 : FlatB w A2 n2 c2 f2) (h1 : RowsB w v1 n1 L F) (hn0 : n0 ≤ 1048576) (hn2 : n2 ≤ 1048576) (hn1 : n1 ≤ 1048576) (hL : ∀ r, r < n1 → L r ≤ 1048576) (ht1 : -9223372036854775808 ≤ t) (ht2 : t ≤ 9223372036854775807) (hpos : ¬ 0 < logLen L n1 + n2) :
    Calls Try.prog 5 #[.slice A0 n0 c0, v1, .slice A2 n2 c2, .int .i64 t, .int .u8 y] w fun e w' => e = .returned (.bool true) ∧ Below w.heap.size w w' := by
  obtain ⟨i0, hi0, hz0, hz1, hz2⟩ := info_parts u8_info
  have hcat := catLen_bound L n1 1048576 hL
  have hcat2 : catLen L n1 ≤ 1099511627776 := Nat.le_trans hcat (Nat.le_trans (Nat.mul_le_mul_right _ hn1) (by omega))
  clear hcat
  have HPOS := Lib.hid hpos
  clear hpos
  have HMANY := Lib.hid (many_any w v1 n1 L F h1 hn1 hcat2)
  have HH1 := Lib.hid h1
  have HR0 := Lib.hid hr0
  have HR2 := Lib.hid hr2
  have HL := Lib.hid hL
  clear hr0 hr2 hL h1
  go_enter Try.func5, Try.ntmps5
  go_wp2_with fail
  refine HMANY.out.mono ?_
  rintro e w' ⟨rfl, rfl⟩
  by_cases hm : 1000 < catLen L n1 ∨ 20 < n1
  · rw [show tooMany L n1 = true from decide_eq_true hm]
    clear hm hcat2
    go_wp2_with fail
    refine (known_any _).mono ?_
    rintro e w3 ⟨rfl, hb4⟩
    go_wp2_with fail
    go_ret
    exact ⟨rfl, hb4⟩
  · rw [show tooMany L n1 = false from decide_eq_false hm]
    have hn20 : n1 ≤ 20 := by omega
    have HLT : Hid (∀ r, r < n1 → L r ≤ 1000) := fun r hr => by have := catLen_ge L hr; omega
    clear hm hcat2
    go_wp2_with fail
    refine (many_any _ _ 2 (two n0 n2) (twoF f0 f2) (two_rows w A0 A2 n0 c0 n2 c2 f0 f2 (HR0.out.reads (Nat.le_refl _)) (HR2.out.reads (Nat.le_refl _))) (by omega) (by rw [two_len]; omega)).mono ?_
    rintro e w' ⟨rfl, rfl⟩
    obtain ⟨wa, hwa⟩ : ∃ wa, w.alloc (.cells #[.slice A0 n0 c0, .slice A2 n2 c2] 22) = wa := ⟨_, rfl⟩
    have hb0 : Below w.heap.size w wa := by rw [← hwa]; exact (Below.refl _ _).alloc (Nat.le_refl _) _
    rw [hwa]
    clear hwa
    have HB0 := Lib.hid hb0
    clear hb0
    by_cases hm : 1000 < n0 + n2
    · rw [show tooMany (two n0 n2) 2 = true from decide_eq_true (.inl (by rw [two_len]; exact hm))]
      go_wp2_with fail
      refine (known_any _).mono ?_
      rintro e w3 ⟨rfl, hb4⟩
      go_wp2_with fail
      go_ret
      exact ⟨rfl, HB0.out.trans (hb4.mono HB0.out.size)⟩
    · rw [show tooMany (two n0 n2) 2 = false from decide_eq_false (by rw [two_len]; omega)]
      go_wp2_with fail
      refine (written_any _ _ n1 L F (HH1.out.below HB0.out) hn20 HLT.out).mono ?_
      rintro e w1 ⟨A3, c3, rfl, hb1, ho1⟩
      have hz0' := HB0.out.size
      have hlog : logLen L n1 ≤ 20160 := by
        have : ∀ k, k ≤ n1 → logLen L k ≤ k * 1008 := by
          intro k
          induction k with
          | zero => intro _; simp [logLen]
          | succ k ih => intro hk; have := ih (by omega); have := HLT.out k (by omega); simp only [logLen]; omega
        have := this n1 (Nat.le_refl _)
        omega
      obtain ⟨lf, hlf⟩ : ∃ lf, logF L F n1 = lf := ⟨_, rfl⟩
      obtain ⟨lg, hlg⟩ : ∃ lg, logLen L n1 = lg := ⟨_, rfl⟩
      have hpos := HPOS.out
      clear HPOS
      rw [hlg] at hlog hpos ⊢
      rw [hlf, hlg] at ho1
      have hb1' := HB0.out.trans (hb1.mono hz0')
      have HB1 := Lib.hid hb1'
      have HO1 := Lib.hid ho1
      have hzw := hb1'.size
      have HRT := Lib.hid ((HR2.out.below hb1'))
      have HOL := Lib.hid (lit_owns w1 5)
      have HRA := Lib.hid ((Reads.of_own ho1).alloc (Nat.le_refl _) (.cells #[] 5))
      clear hlf hlg hb1 ho1 hb1' HLT HH1 HL HMANY
      have hpi : decide ((0 : Int) < (lg : Int) + n2) = false := decide_eq_false (by omega)
      clear hpos
      go_upto_region 7 with (first
        | (at_builtin
           refine wpList_append_any _ rfl (.tmp 30) (.tmp 31) _ rfl w1.heap.size 5 i0 _ 1 1 Try.underlying22 hi0 hz0 hz1 hz2 rfl (by omega) _ 0 [] rfl
             HOL.out w1.heap.size A3 lg c3 _ rfl HRA.out (bytesOf_one _ _) (by unfold maxLen; omega) (by omega) (by simp) ?_
           intro v2 w2 ho2 hg2 hat2
           rw [Nat.zero_add, List.nil_append] at ho2
           have hb2 : Below w1.heap.size w1 w2 := ((Below.refl _ _).alloc (Nat.le_refl _) _).grown hg2 (by rw [World.size_alloc]; omega) (fun g e => by have := Option.some.inj (show some w1.heap.size = some g from e); omega)
           obtain ⟨A4, c4, rfl⟩ := own_form ho2
           have HO2 := Lib.hid ho2
           have HB2 := Lib.hid hb2
           have hz2' := hb2.size
           have HR5 := Lib.hid ((HRT.out.below hb2).reads (Nat.le_refl _))
           clear ho2 hb2 hg2 hat2)
        | (at_builtin
           refine wpList_append_any _ rfl (.tmp 32) (.tmp 33) _ rfl w1.heap.size 5 i0 _ 1 1 Try.underlying22 hi0 hz0 hz1 hz2 rfl (by omega) _ lg _ rfl
             HO2.out _ A2 n2 c2 _ rfl HR5.out (bytesOf_one _ _) (by unfold maxLen; omega) (by omega) hz2' ?_
           intro v3 w3 ho3 hg3 hat3
           rw [bytesOf_glue] at ho3
           have hb3 : Below w1.heap.size w1 w3 := HB2.out.grown hg3 hz2' (fun g e => (HO2.out.lt g e).1)
           obtain ⟨A5, c5, rfl⟩ := own_form ho3
           have HO3 := Lib.hid ho3
           have HB3 := Lib.hid hb3
           have hz3' := hb3.size
           clear ho3 hb3 hg3 hat3 HO2 HB2 HR5))
      obtain ⟨w4, hw4⟩ : ∃ w4, w3 = w4 := ⟨_, rfl⟩
      have hFC := FlatB.of_own HO3.out
      have hb4 := HB3.out
      obtain ⟨FC, hFCe⟩ : ∃ FC, glue lg lf f2 = FC := ⟨_, rfl⟩
      rw [hFCe] at hFC
      rw [hw4] at hFC hb4 ⊢
      clear hw4 hFCe HB3 HO3
      have HFC := Lib.hid hFC
      have hbw := HB1.out.trans (hb4.mono hzw)
      have HB4 := Lib.hid hbw
      have HOL4 := Lib.hid (lit_owns w4 5)
      have HRT4 := Lib.hid (HRT.out.below hb4)
      have HRA4 := Lib.hid (((FlatB.of_own (owns_below HO1.out hb4)).reads (Nat.le_refl _)).alloc (Nat.le_refl _) (.cells #[] 5))
      clear hFC hb4 hbw HRT HRA HOL HO1 HB1
      go_wp2_with (first
        | (at_builtin
           refine wpList_append_any _ rfl (.tmp 49) (.tmp 50) _ rfl w4.heap.size 5 i0 _ 1 1 Try.underlying22 hi0 hz0 hz1 hz2 rfl (by omega) _ 0 [] rfl
             HOL4.out w4.heap.size A3 lg c3 _ rfl HRA4.out (bytesOf_one _ _) (by unfold maxLen; omega) (by omega) (by simp) ?_
           intro v5 w5 ho5 hg5 hat5
           rw [Nat.zero_add, List.nil_append] at ho5
           have hb5 : Below w4.heap.size w4 w5 := ((Below.refl _ _).alloc (Nat.le_refl _) _).grown hg5 (by rw [World.size_alloc]; omega) (fun g e => by have := Option.some.inj (show some w4.heap.size = some g from e); omega)
           obtain ⟨A6, c6, rfl⟩ := own_form ho5
           have HO5 := Lib.hid ho5
           have HB5 := Lib.hid hb5
           have hz5' := hb5.size
           have HR6 := Lib.hid ((HRT4.out.below hb5).reads (Nat.le_refl _))
           clear ho5 hb5 hg5 hat5)
        | (at_builtin
           refine wpList_append_any _ rfl (.tmp 51) (.tmp 52) _ rfl w4.heap.size 5 i0 _ 1 1 Try.underlying22 hi0 hz0 hz1 hz2 rfl (by omega) _ lg _ rfl
             HO5.out _ A2 n2 c2 _ rfl HR6.out (bytesOf_one _ _) (by unfold maxLen; omega) (by omega) hz5' ?_
           intro v6 w6 ho6 hg6 hat6
           rw [bytesOf_glue] at ho6
           have hb6 : Below w4.heap.size w4 w6 := HB5.out.grown hg6 hz5' (fun g e => (HO5.out.lt g e).1)
           obtain ⟨A7, c7, rfl⟩ := own_form ho6
           have HO6 := Lib.hid ho6
           have HB6 := Lib.hid hb6
           have hz6' := hb6.size
           clear ho6 hb6 hg6 hat6 HO5 HB5 HR6))
      obtain ⟨cs3, hcs3⟩ : ∃ cs3 : Array Value, cs3 = #[.slice A0 n0 c0, .slice A7 (lg + n2) c7, .slice A5 (lg + n2) c5] := ⟨_, rfl⟩
      rw [← hcs3]
      have hall : ∀ q, q < 3 → ∃ A n c f, cs3[q]? = some (.slice A n c) ∧ n ≤ 2097152 ∧ FlatB w6 A n c f := by
        intro q hq
        have : q = 0 ∨ q = 1 ∨ q = 2 := by omega
        rcases this with rfl | rfl | rfl
        · exact ⟨A0, n0, c0, f0, by rw [hcs3]; rfl, by omega, HR0.out.below (HB4.out.trans (HB6.out.mono HB4.out.size))⟩
        · exact ⟨A7, lg + n2, c7, _, by rw [hcs3]; rfl, by omega, FlatB.of_own HO6.out⟩
        · exact ⟨A5, lg + n2, c5, FC, by rw [hcs3]; rfl, by omega, HFC.out.below HB6.out⟩
      have HALL := Lib.hid hall
      have hbo : Below w.heap.size w w6 := HB4.out.trans (HB6.out.mono HB4.out.size)
      have HBO := Lib.hid hbo
      have hzo := hbo.size
      clear hcs3 hall hbo HO6 HB6 HFC HR0 HRT4 HOL4 HRA4 HB4
      have hblk : Blk (w6.alloc (.cells cs3 22)) w6.heap.size 22 cs3 := Blk.new _ _ _
      have hbl0 : Below w6.heap.size w6 (w6.alloc (.cells cs3 22)) := (Below.refl _ _).alloc (Nat.le_refl _) _
      have HBK := Lib.hid hblk
      have HBL := Lib.hid hbl0
      clear hblk hbl0
      go_loopw [57] (fun i wr => ∃ q : Nat, q ≤ 3 ∧ i = .int .i64 (q : Int) ∧ Below w6.heap.size w6 wr ∧ Blk wr w6.heap.size 22 cs3) (fun i _ => 3 - (intOf i).toNat)
      case atStart => exact ⟨0, by omega, rfl, HBL.out, HBK.out⟩
      case round =>
        obtain ⟨q, hq, rfl, hb, hk⟩ := hrel
        clear HBK HBL
        have hz7 := hb.size
        by_cases hlt : q < 3
        · obtain ⟨A, n, c, f, hcell, hn, hfl⟩ := HALL.out q hlt
          have y0 : wr.cell? ⟨w6.heap.size, q, none⟩ = some (.slice A n c) := (hk.cell q).trans hcell
          have hc3 : (q : Int) < 3 := by omega
          have hub := (readFrom_bound n f n 0 (by omega) (by omega))
          have hnc := hfl.1
          have hcm : c ≤ 9223372036854775807 := hfl.2.1
          have HF := Lib.hid (hfl.below hb)
          have HB := Lib.hid hb
          have HK := Lib.hid hk
          clear hfl hb hk hcell
          go_wp2_with fail
          refine (HF.out.read (by omega)).mono ?_
          rintro e w8 ⟨va, rfl, hla, hb8⟩
          have HF8 := Lib.hid (HF.out.below hb8)
          have HLA := Lib.hid hla
          have HB8 := Lib.hid (HB.out.trans (hb8.mono hz7))
          have HK8 := Lib.hid (HK.out.below hb8 HK.out.lt)
          clear hla hb8 HF HB HK
          go_wp2_with fail
          refine (HF8.out.readlog (by omega)).mono ?_
          rintro e w9 ⟨vb, rfl, hlb, hb9⟩
          have HF9 := Lib.hid (HF8.out.below hb9)
          have HB9 := Lib.hid (HB8.out.trans (hb9.mono HB8.out.size))
          have HK9 := Lib.hid (HK8.out.below hb9 HK8.out.lt)
          have HRA9 := Lib.hid ((HLA.out.below hb9).rows.below (belowDrew (Below.refl _ _)))
          have HRB9 := Lib.hid (hlb.rows.below (belowDrew (Below.refl _ _)))
          clear hlb hb9 HLA HF8 HB8 HK8
          have hrep := (HF9.out).below (belowDrew (Below.refl w9.heap.size w9))
          obtain ⟨R, hR⟩ : ∃ R, readFrom n 0 f = R := ⟨_, rfl⟩
          rw [hR] at HRA9 HRB9 hub ⊢
          obtain ⟨rs, u⟩ := R
          have HRE := Lib.hid hR
          have hu2 : u ≤ n := hub.2.1
          have hlenrs : rs.length ≤ n := hub.2.2
          have HFD := Lib.hid hrep
          clear hrep hub hR HF9
          have hui : (u : Int) ≤ c := by omega
          go_wp2_with fail
          go_region_law (first
            | (go_simp; go_at_call 16; refine (samelists_any _ va vb rs.length (rowsL rs) (rowsF rs f) (rowsF rs f) HRA9.out HRB9.out (fun _ _ _ _ => rfl) (by omega)).mono ?_; rintro e w10 ⟨rfl, hb10⟩; have HF10 := Lib.hid (HFD.out.below hb10); have HB10 := Lib.hid (⟨hb10.os, hb10.tape, hb10.output, hb10.size, hb10.block⟩ : Below w9.heap.size w9 w10); have hrep10 := HF10.out.repair (by omega); rw [HRE.out] at hrep10; have HREP10 := Lib.hid hrep10; clear hb10 hrep10)
            | (go_simp; go_at_call 17; refine HREP10.out.mono ?_; rintro e w11 ⟨A11, c11, rfl, hb11, ho11⟩; have HO11 := Lib.hid ho11; have HR11 := Lib.hid ((HF10.out.below hb11).reads hu2); have HB11 := Lib.hid (HB10.out.trans (hb11.mono HB10.out.size)); clear hb11 ho11)
            | (go_simp; go_at_call 12; refine (same_reads _ _ _ u _ _ _ _ f f (Reads.of_own HO11.out) HR11.out (fun _ _ => rfl)).mono ?_; rintro e w12 ⟨rfl, rfl⟩))
          all_goals
            go_wp2_with fail
            go_roundw
            case rel => exact ⟨q + 1, by omega, by go_num, HB9.out.trans (HB11.out.mono HB9.out.size), HK9.out.below HB11.out HK9.out.lt⟩
            case measure => simp [intOf]; omega
        · obtain rfl : q = 3 := by omega
          have HB2 := Lib.hid (HBO.out.trans (hb.mono hzo))
          clear hlt hb hk
          go_wp2_with fail
          refine (known_any _).mono ?_
          rintro e w3 ⟨rfl, hb4⟩
          go_wp2_with fail
          go_ret
          exact ⟨rfl, HB2.out.trans (hb4.mono HB2.out.size)⟩

theorem jourReads_any (w : World) (A0 A2 : Option Addr) (n0 c0 n2 c2 : Nat) (f0 f2 : Nat → UInt8) (v1 : Value) (n1 : Nat) (L : Nat → Nat) (F : Nat → Nat → UInt8) (t : Int) (y : Int)
    (hr0 : FlatB w A0 n0 c0 f0) (hr2 : FlatB w A2 n2 c2 f2) (h1 : RowsB w v1 n1 L F) (hn0 : n0 ≤ 1048576) (hn2 : n2 ≤ 1048576) (hn1 : n1 ≤ 1048576) (hL : ∀ r, r < n1 → L r ≤ 1048576) (ht1 : -9223372036854775808 ≤ t) (ht2 : t ≤ 9223372036854775807) :
    Calls Try.prog 5 #[.slice A0 n0 c0, v1, .slice A2 n2 c2, .int .i64 t, .int .u8 y] w fun e w' => e = .returned (.bool true) ∧ Below w.heap.size w w' := by
  by_cases hpos : 0 < logLen L n1 + n2
  · exact jourReads_pos w A0 A2 n0 c0 n2 c2 f0 f2 v1 n1 L F t y hr0 hr2 h1 hn0 hn2 hn1 hL ht1 ht2 hpos
  · exact jourReads_zero w A0 A2 n0 c0 n2 c2 f0 f2 v1 n1 L F t y hr0 hr2 h1 hn0 hn2 hn1 hL ht1 ht2 hpos
end Go.Proofs.Ytjiiaepmdlempaa
