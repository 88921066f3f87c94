/- JournalTears: the walk. -/
import Derived.Test.YtjiiaepmdlempaaJourTp
namespace Go.Proofs.Ytjiiaepmdlempaa
open Go.RowKit
set_option linter.unusedVariables false
open ShaW Sha

theorem wpList_append_g {P : Program} (w : World) {ops : Array Oper} {rest : List Oper} {o : Oper} {a : Act} {Q : Exit → Act → World → Prop} (hw : Region.wanted o (yielded ops a.tmps) = true) (s x : Operand) (t : TypeId)
    (ho : o.op = .call { callee := .builtin .append, args := #[s, x], argTypes := #[t, t] })
    (base : Nat) (e : TypeId) (i : TypeInfo) (z : Value) (size bytes : Nat) (ht : P.underlying t = some (.slice e)) (hi : P.info? e = some i) (hz : i.zero = some z)
    (hsize : i.size = size) (hby : i.bytes = bytes) (hzs : z.cells.size = size) (hsz : 0 < size)
    (v : Value) (n : Nat) (xs : List Value) (hs : a.eval s = v) (hown : w.ownsRow base e size v n xs)
    (B : Nat) (A : Option Addr) (m c : Nat) (news : List Value) (hx : a.eval x = .slice A m c) (hr : Reads w B size A m news) (h1 : ∀ u ∈ news, u.oneCell' = true)
    (h63 : n + m ≤ maxLen) (hbytes : (n + m) * bytes ≤ 140737488355328) (hbase : base ≤ w.heap.size)
    (h : ∀ v' w', w'.ownsRow base e size v' (n + m) (xs ++ news) → w.grownBy w' v.ownBlock → (v'.ownBlock = v.ownBlock ∨ v'.ownBlock = some w.heap.size) → wpList P ops Q rest (a.put o.dst v') w') : wpList P ops Q (o :: rest) a w :=
  wpList_step fun K hK => by
    rw [if_pos hw]
    exact wp_append_any w s x t ho base e i z size bytes ht hi hz hsize hby hzs hsz v n xs hs hown B A m c news hx hr h1 h63 hbytes hbase fun v' w' h2 h3 h4 => hK _ _ (h v' w' h2 h3 h4)
theorem ListR.one {w wr : World} {base q : Nat} {v : Value} {L : Nat → Nat} {F : Nat → Nat → UInt8} {xs : List Value} (h1 : wr.ownsRow base 22 1 v q xs) (h2 : ∀ r, r < q → ∃ A c', xs[r]? = some (.slice A (L r) c') ∧ Reads w w.heap.size 1 A (L r) (bytesOf (L r) (F r))) : ∀ u ∈ xs, u.oneCell' = true := by
  intro u hu
  have hlen : xs.length = q := by have := h1.1; omega
  obtain ⟨r, hr, e⟩ := List.getElem_of_mem hu
  obtain ⟨A, c', e', _⟩ := h2 r (by omega)
  rw [List.getElem?_eq_getElem hr, e] at e'
  injection e' with e'
  rw [e']
  rfl
theorem owns_len (w : World) (e : TypeId) : (w.alloc (.cells #[] e)).ownsRow w.heap.size e 1 (.slice (some ⟨w.heap.size, 0, none⟩) 0 0) 0 [] := lit_owns w e
theorem one_reads (w : World) (A : Option Addr) (n c : Nat) : Reads (w.alloc (.cells #[.slice A n c] 22)) (w.alloc (.cells #[.slice A n c] 22)).heap.size 1 (some ⟨w.heap.size, 0, none⟩) 1 [.slice A n c] := by
  refine ⟨rfl, fun _ => ⟨⟨w.heap.size, 0, none⟩, rfl, by rw [World.size_alloc]; exact Nat.lt_succ_self _, fun j u hu => ?_⟩⟩
  rcases j with _ | j
  · injection hu with hu
    subst hu
    rw [add_flat]
    exact lit_cell' _ _ _ _ _
  · simp at hu

set_option maxRecDepth 100000 in
set_option maxHeartbeats 4000000 in
theorem jourTears_whole (w : World) (A2 : Option Addr) (n2 c2 : Nat) (f2 : Nat → UInt8) (v1 : Value) (n1 : Nat) (L : Nat → Nat) (F : Nat → Nat → UInt8) (t : Int)
    (hr2 : FlatB w A2 n2 c2 f2) (h1 : RowsB w v1 n1 L F) (hn2 : n2 ≤ 1048576) (hn1 : n1 ≤ 1048576) (hL : ∀ r, r < n1 → L r ≤ 1048576) (ht1 : -9223372036854775808 ≤ t) (ht2 : t ≤ 9223372036854775807) (hhyp : ∀ k : Nat, t % ((logLen L n1 + 1 : Nat) : Int) = (k : Int) → Hid (∀ r, r < n1 → logLen L r + (8 + L r) ≤ k)) :
    Calls Try.prog 6 #[v1, .int .i64 t, .slice A2 n2 c2] w fun e w' => e = .returned (.bool true) ∧ Below w.heap.size w w' := by
  obtain ⟨i0, hi0, hz0, hz1, hz2⟩ := info_parts sl_info
  have hcat := catLen_bound L n1 1048576 hL
  have hcat2 : catLen L n1 ≤ 1099511627776 := Nat.le_trans hcat (Nat.le_trans (Nat.mul_le_mul_right _ hn1) (by omega))
  clear hcat
  have HHYP := Lib.hid hhyp
  clear hhyp
  have HMANY := Lib.hid (many_any w v1 n1 L F h1 hn1 hcat2)
  obtain ⟨Ar, cr, br, or_, rfl, hAr, hrr⟩ := id h1
  have HH1 := Lib.hid h1
  have HAR := Lib.hid hAr
  have HRR := Lib.hid hrr
  have HR2 := Lib.hid hr2
  clear hr2 hL h1 hAr hrr
  go_enter Try.func6, Try.ntmps6
  go_wp2_with fail
  refine HMANY.out.mono ?_
  rintro e w' ⟨rfl, rfl⟩
  by_cases hm : 1000 < catLen L n1 ∨ 20 < n1
  · rw [show tooMany L n1 = true from decide_eq_true hm]
    clear hm hcat2
    go_wp2_with fail
    refine (known_any _).mono ?_
    rintro e w3 ⟨rfl, hb4⟩
    go_wp2_with fail
    go_ret
    exact ⟨rfl, hb4⟩
  · rw [show tooMany L n1 = false from decide_eq_false hm]
    have hn20 : n1 ≤ 20 := by omega
    have HLT : Hid (∀ r, r < n1 → L r ≤ 1000) := fun r hr => by have := catLen_ge L hr; omega
    clear hm hcat2
    go_wp2_with fail
    have hone : RowsB (w.alloc (.cells #[.slice A2 n2 c2] 22)) (.slice (some ⟨w.heap.size, 0, none⟩) 1 1) 1 (fun _ => n2) (fun _ => f2) := by
      refine ⟨_, _, w.heap.size, 0, rfl, fun _ => rfl, fun r hr => ?_⟩
      obtain rfl : r = 0 := by omega
      exact ⟨A2, c2, lit_cell' _ _ _ _ _, ((HR2.out.reads (Nat.le_refl _)).alloc (Nat.le_refl _) _).more (by rw [World.size_alloc]; omega)⟩
    refine (many_any _ _ 1 (fun _ => n2) (fun _ => f2) hone (by omega) (by simp only [catLen]; omega)).mono ?_
    rintro e w' ⟨rfl, rfl⟩
    clear hone
    obtain ⟨wa, hwa⟩ : ∃ wa, w.alloc (.cells #[.slice A2 n2 c2] 22) = wa := ⟨_, rfl⟩
    have hb0 : Below w.heap.size w wa := by rw [← hwa]; exact (Below.refl _ _).alloc (Nat.le_refl _) _
    rw [hwa]
    clear hwa
    have HB0 := Lib.hid hb0
    clear hb0
    by_cases hm : 1000 < n2
    · rw [show tooMany (fun _ => n2) 1 = true from decide_eq_true (.inl (by simp only [catLen]; omega))]
      go_wp2_with fail
      refine (known_any _).mono ?_
      rintro e w3 ⟨rfl, hb4⟩
      go_wp2_with fail
      go_ret
      exact ⟨rfl, HB0.out.trans (hb4.mono HB0.out.size)⟩
    · rw [show tooMany (fun _ => n2) 1 = false from decide_eq_false (by simp only [catLen]; omega)]
      go_wp2_with fail
      refine (written_any _ _ n1 L F (HH1.out.below HB0.out) hn20 HLT.out).mono ?_
      rintro e w1 ⟨A3, c3, rfl, hb1, ho1⟩
      have hz0' := HB0.out.size
      have hlog : ∀ k, k ≤ n1 → logLen L k ≤ k * 1008 := by
        intro k
        induction k with
        | zero => intro _; simp [logLen]
        | succ k ih => intro hk; have := ih (by omega); have := HLT.out k (by omega); simp only [logLen]; omega
      have HLOG := Lib.hid hlog
      have hlgb := hlog n1 (Nat.le_refl _)
      clear hlog
      have hb1' := HB0.out.trans (hb1.mono hz0')
      have HB1 := Lib.hid hb1'
      have HFL := Lib.hid (FlatB.of_own ho1)
      have hzw := hb1'.size
      have hpl := place_any t ((logLen L n1 + 1 : Nat) : Int) ht1 ht2 (by omega) (by omega) w1
      obtain ⟨k, hk⟩ : ∃ k : Nat, t % ((logLen L n1 + 1 : Nat) : Int) = (k : Int) := ⟨(t % ((logLen L n1 + 1 : Nat) : Int)).toNat, by have := Int.emod_nonneg t (show ((logLen L n1 + 1 : Nat) : Int) ≠ 0 by omega); omega⟩
      have hk2 : k ≤ logLen L n1 := by have := Int.emod_lt_of_pos t (show (0 : Int) < ((logLen L n1 + 1 : Nat) : Int) by omega); omega
      have hhyp := HHYP.out k hk |>.out
      have HHK := Lib.hid hhyp
      rw [hk] at hpl
      rw [show ((logLen L n1 + 1 : Nat) : Int) = (logLen L n1 : Int) + 1 by omega] at hpl
      have HPL := Lib.hid hpl
      clear hb1 ho1 hb1' hpl hk HHYP HMANY HH1 hhyp
      obtain ⟨lg, hlg⟩ : ∃ lg, logLen L n1 = lg := ⟨_, rfl⟩
      have HLG := Lib.hid hlg
      rw [hlg] at HPL HFL hk2 hlgb ⊢
      clear hlg
      have hcm3 : c3 ≤ 9223372036854775807 := HFL.out.2.1
      have hcl3 : lg ≤ c3 := HFL.out.1
      have q1 : IntKind.i64.wrap ((lg : Int) + 1) = (lg : Int) + 1 := IntWalk.i64_in _ (by omega)
      go_wp2_with fail
      refine HPL.out.mono ?_
      rintro e w' ⟨rfl, rfl⟩
      clear q1 HPL
      go_wp2_with fail
      go_loopw [9, 10, 36] (fun v s i wr => ∃ r : Nat, r ≤ n1 ∧ i = .int .i64 (r : Int) ∧ s = .int .i64 (logLen L r : Int) ∧ logLen L r ≤ k ∧ Below w1.heap.size w1 wr ∧ ListR w wr w1.heap.size v r L F) (fun _ _ i _ => n1 - (intOf i).toNat)
      case atStart => exact ⟨0, by omega, rfl, rfl, by simp [logLen], Below.refl _ _, [], World.ownsRow_nil _ _ _ _, fun r hr => absurd hr (by omega)⟩
      case round =>
        obtain ⟨c, hcc, rfl, rfl, hck, hb, hlr⟩ := hrel
        obtain ⟨Av, cv, rfl⟩ : ∃ A c', _ = Value.slice A c c' := by
          obtain ⟨xs, hx, _⟩ := hlr
          exact own_form hx
        have hq1 : (k : Int) ≤ c3 := by omega
        have HFL' := HFL
        clear HFL
        have HFL := Lib.hid (HFL'.out.below hb)
        have HLR := Lib.hid hlr
        have HB := Lib.hid (HB1.out.trans (hb.mono hzw))
        have HBL := Lib.hid hb
        have hzb := hb.size
        clear hb hlr HFL'
        by_cases hlt : c < n1
        · have hki : (c : Int) < n1 := by omega
          obtain ⟨Ac, cc, x0, hrd⟩ := HRR.out c hlt
          obtain rfl := HAR.out (by omega)
          have y0 := (HB.out.cell (p := ⟨br, or_ + c, none⟩) (World.block_lt_of_cell? w _ x0)).trans x0
          have hm1 := logLen_mono L (show c + 1 ≤ n1 by omega)
          have hm2 := HLT.out c hlt
          simp only [logLen] at hm1
          rw [HLG.out] at hm1
          have hkx := HHK.out c hlt
          obtain ⟨s, hs⟩ : ∃ s, logLen L c = s := ⟨_, rfl⟩
          obtain ⟨l, hl⟩ : ∃ l, L c = l := ⟨_, rfl⟩
          rw [hs, hl] at hm1
          rw [hs, hl] at hkx
          rw [hl] at y0 hrd hm2
          rw [hs] at hck ⊢
          have HS := Lib.hid hs
          have HLL := Lib.hid hl
          have HRDC := Lib.hid hrd
          clear hs hl hrd x0
          have hnk : ¬ (k : Int) < (s : Int) + (8 + (l : Int)) := by omega
          have hlr2 := HLR.out.below ((Below.refl wr.heap.size wr).alloc (Nat.le_refl _) (.cells #[.slice Ac l cc] 22))
          obtain ⟨xs, hx1, hx2⟩ := hlr2
          have HX1 := Lib.hid hx1
          have HX2 := Lib.hid hx2
          have HN := Lib.hid (one_reads wr Ac l cc)
          clear hx1 hx2
          go_wp2_with (first
            | (at_builtin
               refine wpList_append_any _ rfl (.tmp 48) (.tmp 50) _ rfl w1.heap.size 22 i0 _ 1 24 Try.underlying23 hi0 hz0 hz1 hz2 rfl (by omega) _ c xs rfl
                 HX1.out _ _ 1 1 _ rfl HN.out (by intro u hu; simp at hu; subst hu; rfl) (by unfold maxLen; omega) (by omega) (by rw [World.size_alloc]; omega) ?_
               intro v6 w6 ho6 hg6 hat6
               have hb6 : Below w1.heap.size w1 w6 := (HBL.out.alloc hzb _).grown hg6 (by rw [World.size_alloc]; omega) (fun g e => (HX1.out.lt g e).1)
               have HL6 := Lib.hid (ListR.snoc (f := F c) HX1.out HX2.out (by rw [HLL.out] at *; exact HRDC.out) ho6 HLL.out rfl)
               have HB6 := Lib.hid hb6
               clear ho6 hg6 hat6 hb6))
          go_roundw
          case rel => exact ⟨c + 1, by omega, by go_num, by simp only [logLen]; rw [HS.out, HLL.out]; push_cast; rfl, by simp only [logLen]; rw [HS.out, HLL.out]; omega, HB6.out, HL6.out⟩
          case measure => simp [intOf]; omega
        · obtain rfl : c = n1 := by omega
          have hkk : c < c → k < logLen L (c + 1) := fun h => absurd h (by omega)
          rw [← HLG.out] at hk2 HFL
          have hlgb' := HLOG.out c (Nat.le_refl _)
          clear hlt HBL HLG
          have HTR := Lib.hid (tear_read L F c c k (logF L F c) (fun i hi => by have := HLT.out i hi; omega) hcc hck hkk hk2 (fun _ _ => rfl))
          have hlc : logLen L c ≤ 20160 := by omega
          go_wp2_with fail
          refine ((HFL.out.cut hk2).read (by omega)).mono ?_
          rintro e w5 ⟨v5, rfl, hl5, hb5⟩
          rw [HTR.out] at hl5 ⊢
          have hout : RowsB w5 v5 c L F := by
            have h := (hl5.congr (L' := L) (F' := F) (fun r hr => (tear_rows L F c c k (logF L F c) hcc hck (fun _ _ => rfl) (by rw [logRs_len] at hr; exact hr)).1) (fun r hr j hj => by
              rw [logRs_len] at hr
              have ht := tear_rows L F c c k (logF L F c) hcc hck (fun _ _ => rfl) hr
              exact ht.2 j (by rw [← ht.1]; exact hj))).rows
            rw [logRs_len] at h
            exact h
          have HOUT := Lib.hid hout
          have HFL5 := Lib.hid ((HFL.out.cut hk2).below hb5)
          have HLR5 := Lib.hid (HLR.out.below hb5)
          have HB5 := Lib.hid (HB.out.trans (hb5.mono HB.out.size))
          clear hl5 hb5 hout HFL HLR HB
          go_wp2_with fail
          refine (HFL5.out.repair (by omega)).mono ?_
          rintro e w6 ⟨A6, c6, rfl, hb6, ho6⟩
          rw [HTR.out] at ho6 ⊢
          have HOUT6 := Lib.hid (HOUT.out.below hb6)
          have HLR6 := Lib.hid (HLR5.out.below hb6)
          have HB6 := Lib.hid (HB5.out.trans (hb6.mono HB5.out.size))
          have HO6 := Lib.hid ho6
          clear hb6 ho6 HOUT HFL5 HLR5 HB5
          have ho6' : Hid (w6.ownsRow _ 5 1 (.slice A6 (logLen L c) c6) (logLen L c) (bytesOf (logLen L c) (logF L F c))) := HO6.out
          have hrm := Lib.hid (((HR2.out.below HB6.out).reads (Nat.le_refl _)))
          go_wp2_with fail
          refine (append_ok _ A6 A2 (logLen L c) c6 n2 c2 (logF L F c) f2 (Reads.of_own ho6'.out) hrm.out (by omega) (by omega)).mono ?_
          rintro e w7 ⟨A7, c7, rfl, hb7, ho7⟩
          have HOUT7 := Lib.hid (HOUT6.out.below hb7)
          have HLR7 := Lib.hid (HLR6.out.below hb7)
          have HB7 := Lib.hid (HB6.out.trans (hb7.mono HB6.out.size))
          have HF7 := Lib.hid (FlatB.of_own ho7)
          have HMR := Lib.hid (mend_read L F c c n2 f2 (fun i hi => by have := HLT.out i hi; omega) (by omega) hcc)
          clear hb7 ho7 HOUT6 HLR6 HB6 HO6 ho6' hrm
          go_wp2_with fail
          refine (HF7.out.read (by omega)).mono ?_
          rintro e w8 ⟨v8, rfl, hl8, hb8⟩
          rw [HMR.out] at hl8 ⊢
          have hag : RowsB w8 v8 (c + 1) (moreL L c n2) (moreF F c f2) := by
            have h := (hl8.congr (L' := moreL L c n2) (F' := moreF F c f2) (fun r hr => (mend_rows L F c c n2 f2 hcc (by rw [logRs_len] at hr; exact hr)).1) (fun r hr j hj => by
              rw [logRs_len] at hr
              have ht := mend_rows L F c c n2 f2 hcc hr
              exact ht.2 j (by rw [← ht.1]; exact hj))).rows
            rw [logRs_len] at h
            exact h
          have HAG := Lib.hid hag
          have HOUT8 := Lib.hid (HOUT7.out.below hb8)
          have HLR8 := Lib.hid (HLR7.out.below hb8)
          have HB8 := Lib.hid (HB7.out.trans (hb8.mono HB7.out.size))
          clear hl8 hb8 hag HOUT7 HLR7 HB7 HF7 HMR HTR
          obtain ⟨lc, hlce⟩ : ∃ lc, logLen L c = lc := ⟨_, rfl⟩
          rw [hlce]
          clear hlce hlc hck hkk
          go_wp2_with fail
          refine (samelists_any _ _ _ c L F F HOUT8.out (HLR8.out.rows HB8.out) (fun _ _ _ _ => rfl) (by omega)).mono ?_
          rintro e w9 ⟨rfl, hb9⟩
          have HAG9 := Lib.hid (HAG.out.below hb9)
          have hlr9 := HLR8.out.below hb9
          have HB9 := Lib.hid (HB8.out.trans (hb9.mono HB8.out.size))
          obtain ⟨xs, hx1, hx2⟩ := hlr9
          have HX2 := Lib.hid hx2
          have HX1 := Lib.hid hx1
          have HXO := Lib.hid (ListR.one hx1 hx2)
          have HOL9 := Lib.hid (lit_owns w9 22)
          have HXR := Lib.hid ((Reads.of_own hx1).alloc (Nat.le_refl _) (.cells #[] 22))
          clear hb9 hx1 hx2 HAG HOUT8 HLR8 HB8
          go_wp2_with (first
            | (at_builtin
               refine wpList_append_g _ ?_ (.tmp 89) (.tmp 90) _ rfl w9.heap.size 22 i0 _ 1 24 Try.underlying23 hi0 hz0 hz1 hz2 rfl (by omega) _ 0 [] rfl
                 HOL9.out _ _ c _ _ rfl HXR.out HXO.out (by unfold maxLen; omega) (by omega) (by simp) ?_
               · rfl
               intro v10 w10 ho10 hg10 hat10
               rw [Nat.zero_add, List.nil_append] at ho10
               have hb10 : Below w9.heap.size w9 w10 := ((Below.refl _ _).alloc (Nat.le_refl _) _).grown hg10 (by rw [World.size_alloc]; omega) (fun g e => by have := Option.some.inj (show some w9.heap.size = some g from e); omega)
               obtain ⟨A10, c10, rfl⟩ := own_form ho10
               have hz10 := hb10.size
               have hb11 : Below w9.heap.size w9 (w10.alloc (.cells #[.slice A2 n2 c2] 22)) := hb10.alloc hz10 _
               have HO10 := Lib.hid (owns_below ho10 ((Below.refl _ _).alloc (Nat.le_refl _) (.cells #[.slice A2 n2 c2] 22)))
               have HB11 := Lib.hid hb11
               have HN := Lib.hid (one_reads w10 A2 n2 c2)
               clear ho10 hg10 hat10 hb10 hb11)
            | (at_builtin
               refine wpList_append_g _ ?_ (.tmp 91) (.tmp 93) _ rfl w9.heap.size 22 i0 _ 1 24 Try.underlying23 hi0 hz0 hz1 hz2 rfl (by omega) _ c xs rfl
                 HO10.out _ _ 1 1 _ rfl HN.out (by intro u hu; simp at hu; subst hu; rfl) (by unfold maxLen; omega) (by omega) (by rw [World.size_alloc]; omega) ?_
               · rfl
               intro v12 w12 ho12 hg12 hat12
               have hb12 : Below w9.heap.size w9 w12 := HB11.out.grown hg12 HB11.out.size (fun g e => (HO10.out.lt g e).1)
               have hls : ListR w w12 w9.heap.size v12 (c + 1) (moreL L c n2) (moreF F c f2) := by
                 refine ListR.snoc (f := f2) HO10.out (fun r hr => ?_) (HR2.out.reads (Nat.le_refl _)) ho12 moreL_eq moreF_eq
                 obtain ⟨A, c', e, hu⟩ := HX2.out r hr
                 rw [moreL_lt hr, moreF_lt hr]
                 exact ⟨A, c', e, hu⟩
               have HLS := Lib.hid hls
               have HB12 := Lib.hid hb12
               clear ho12 hg12 hat12 hb12 hls))
          have hbw := HB9.out.trans (HB12.out.mono HB9.out.size)
          refine (samelists_any _ _ _ (c + 1) (moreL L c n2) (moreF F c f2) (moreF F c f2) (HAG9.out.below HB12.out) (HLS.out.rows hbw) (fun _ _ _ _ => rfl) (by omega)).mono ?_
          rintro e w13 ⟨rfl, hb13⟩
          have HB13 := Lib.hid (hbw.trans (hb13.mono hbw.size))
          clear hbw hb13
          go_wp2_with fail
          refine (known_any _).mono ?_
          rintro e w14 ⟨rfl, hb14⟩
          go_wp2_with fail
          go_ret
          exact ⟨rfl, HB13.out.trans (hb14.mono HB13.out.size)⟩

set_option maxRecDepth 100000 in
set_option maxHeartbeats 4000000 in
theorem jourTears_torn (w : World) (A2 : Option Addr) (n2 c2 : Nat) (f2 : Nat → UInt8) (v1 : Value) (n1 : Nat) (L : Nat → Nat) (F : Nat → Nat → UInt8) (t : Int)
    (hr2 : FlatB w A2 n2 c2 f2) (h1 : RowsB w v1 n1 L F) (hn2 : n2 ≤ 1048576) (hn1 : n1 ≤ 1048576) (hL : ∀ r, r < n1 → L r ≤ 1048576) (ht1 : -9223372036854775808 ≤ t) (ht2 : t ≤ 9223372036854775807) (hhyp : ∀ k : Nat, t % ((logLen L n1 + 1 : Nat) : Int) = (k : Int) → Hid (k < logLen L n1)) :
    Calls Try.prog 6 #[v1, .int .i64 t, .slice A2 n2 c2] w fun e w' => e = .returned (.bool true) ∧ Below w.heap.size w w' := by
  obtain ⟨i0, hi0, hz0, hz1, hz2⟩ := info_parts sl_info
  have hcat := catLen_bound L n1 1048576 hL
  have hcat2 : catLen L n1 ≤ 1099511627776 := Nat.le_trans hcat (Nat.le_trans (Nat.mul_le_mul_right _ hn1) (by omega))
  clear hcat
  have HHYP := Lib.hid hhyp
  clear hhyp
  have HMANY := Lib.hid (many_any w v1 n1 L F h1 hn1 hcat2)
  obtain ⟨Ar, cr, br, or_, rfl, hAr, hrr⟩ := id h1
  have HH1 := Lib.hid h1
  have HAR := Lib.hid hAr
  have HRR := Lib.hid hrr
  have HR2 := Lib.hid hr2
  clear hr2 hL h1 hAr hrr
  go_enter Try.func6, Try.ntmps6
  go_wp2_with fail
  refine HMANY.out.mono ?_
  rintro e w' ⟨rfl, rfl⟩
  by_cases hm : 1000 < catLen L n1 ∨ 20 < n1
  · rw [show tooMany L n1 = true from decide_eq_true hm]
    clear hm hcat2
    go_wp2_with fail
    refine (known_any _).mono ?_
    rintro e w3 ⟨rfl, hb4⟩
    go_wp2_with fail
    go_ret
    exact ⟨rfl, hb4⟩
  · rw [show tooMany L n1 = false from decide_eq_false hm]
    have hn20 : n1 ≤ 20 := by omega
    have HLT : Hid (∀ r, r < n1 → L r ≤ 1000) := fun r hr => by have := catLen_ge L hr; omega
    clear hm hcat2
    go_wp2_with fail
    have hone : RowsB (w.alloc (.cells #[.slice A2 n2 c2] 22)) (.slice (some ⟨w.heap.size, 0, none⟩) 1 1) 1 (fun _ => n2) (fun _ => f2) := by
      refine ⟨_, _, w.heap.size, 0, rfl, fun _ => rfl, fun r hr => ?_⟩
      obtain rfl : r = 0 := by omega
      exact ⟨A2, c2, lit_cell' _ _ _ _ _, ((HR2.out.reads (Nat.le_refl _)).alloc (Nat.le_refl _) _).more (by rw [World.size_alloc]; omega)⟩
    refine (many_any _ _ 1 (fun _ => n2) (fun _ => f2) hone (by omega) (by simp only [catLen]; omega)).mono ?_
    rintro e w' ⟨rfl, rfl⟩
    clear hone
    obtain ⟨wa, hwa⟩ : ∃ wa, w.alloc (.cells #[.slice A2 n2 c2] 22) = wa := ⟨_, rfl⟩
    have hb0 : Below w.heap.size w wa := by rw [← hwa]; exact (Below.refl _ _).alloc (Nat.le_refl _) _
    rw [hwa]
    clear hwa
    have HB0 := Lib.hid hb0
    clear hb0
    by_cases hm : 1000 < n2
    · rw [show tooMany (fun _ => n2) 1 = true from decide_eq_true (.inl (by simp only [catLen]; omega))]
      go_wp2_with fail
      refine (known_any _).mono ?_
      rintro e w3 ⟨rfl, hb4⟩
      go_wp2_with fail
      go_ret
      exact ⟨rfl, HB0.out.trans (hb4.mono HB0.out.size)⟩
    · rw [show tooMany (fun _ => n2) 1 = false from decide_eq_false (by simp only [catLen]; omega)]
      go_wp2_with fail
      refine (written_any _ _ n1 L F (HH1.out.below HB0.out) hn20 HLT.out).mono ?_
      rintro e w1 ⟨A3, c3, rfl, hb1, ho1⟩
      have hz0' := HB0.out.size
      have hlog : ∀ k, k ≤ n1 → logLen L k ≤ k * 1008 := by
        intro k
        induction k with
        | zero => intro _; simp [logLen]
        | succ k ih => intro hk; have := ih (by omega); have := HLT.out k (by omega); simp only [logLen]; omega
      have HLOG := Lib.hid hlog
      have hlgb := hlog n1 (Nat.le_refl _)
      clear hlog
      have hb1' := HB0.out.trans (hb1.mono hz0')
      have HB1 := Lib.hid hb1'
      have HFL := Lib.hid (FlatB.of_own ho1)
      have hzw := hb1'.size
      have hpl := place_any t ((logLen L n1 + 1 : Nat) : Int) ht1 ht2 (by omega) (by omega) w1
      obtain ⟨k, hk⟩ : ∃ k : Nat, t % ((logLen L n1 + 1 : Nat) : Int) = (k : Int) := ⟨(t % ((logLen L n1 + 1 : Nat) : Int)).toNat, by have := Int.emod_nonneg t (show ((logLen L n1 + 1 : Nat) : Int) ≠ 0 by omega); omega⟩
      have hk2 : k ≤ logLen L n1 := by have := Int.emod_lt_of_pos t (show (0 : Int) < ((logLen L n1 + 1 : Nat) : Int) by omega); omega
      have hhyp := HHYP.out k hk |>.out
      have HHK := Lib.hid hhyp
      rw [hk] at hpl
      rw [show ((logLen L n1 + 1 : Nat) : Int) = (logLen L n1 : Int) + 1 by omega] at hpl
      have HPL := Lib.hid hpl
      clear hb1 ho1 hb1' hpl hk HHYP HMANY HH1 hhyp
      obtain ⟨lg, hlg⟩ : ∃ lg, logLen L n1 = lg := ⟨_, rfl⟩
      have HLG := Lib.hid hlg
      rw [hlg] at HPL HFL hk2 hlgb ⊢
      clear hlg
      have hcm3 : c3 ≤ 9223372036854775807 := HFL.out.2.1
      have hcl3 : lg ≤ c3 := HFL.out.1
      have q1 : IntKind.i64.wrap ((lg : Int) + 1) = (lg : Int) + 1 := IntWalk.i64_in _ (by omega)
      go_wp2_with fail
      refine HPL.out.mono ?_
      rintro e w' ⟨rfl, rfl⟩
      clear q1 HPL
      go_wp2_with fail
      go_loopw [9, 10, 36] (fun v s i wr => ∃ r : Nat, r ≤ n1 ∧ i = .int .i64 (r : Int) ∧ s = .int .i64 (logLen L r : Int) ∧ logLen L r ≤ k ∧ Below w1.heap.size w1 wr ∧ ListR w wr w1.heap.size v r L F) (fun _ _ i _ => n1 - (intOf i).toNat)
      case atStart => exact ⟨0, by omega, rfl, rfl, by simp [logLen], Below.refl _ _, [], World.ownsRow_nil _ _ _ _, fun r hr => absurd hr (by omega)⟩
      case round =>
        obtain ⟨c, hcc, rfl, rfl, hck, hb, hlr⟩ := hrel
        obtain ⟨Av, cv, rfl⟩ : ∃ A c', _ = Value.slice A c c' := by
          obtain ⟨xs, hx, _⟩ := hlr
          exact own_form hx
        have hq1 : (k : Int) ≤ c3 := by omega
        have HFL' := HFL
        clear HFL
        have HFL := Lib.hid (HFL'.out.below hb)
        have HLR := Lib.hid hlr
        have HB := Lib.hid (HB1.out.trans (hb.mono hzw))
        have HBL := Lib.hid hb
        have hzb := hb.size
        clear hb hlr HFL'
        by_cases hlt : c < n1
        · have hki : (c : Int) < n1 := by omega
          obtain ⟨Ac, cc, x0, hrd⟩ := HRR.out c hlt
          obtain rfl := HAR.out (by omega)
          have y0 := (HB.out.cell (p := ⟨br, or_ + c, none⟩) (World.block_lt_of_cell? w _ x0)).trans x0
          have hm1 := logLen_mono L (show c + 1 ≤ n1 by omega)
          have hm2 := HLT.out c hlt
          simp only [logLen] at hm1
          rw [HLG.out] at hm1
          obtain ⟨s, hs⟩ : ∃ s, logLen L c = s := ⟨_, rfl⟩
          obtain ⟨l, hl⟩ : ∃ l, L c = l := ⟨_, rfl⟩
          rw [hs, hl] at hm1
          rw [hl] at y0 hrd hm2
          rw [hs] at hck ⊢
          have HS := Lib.hid hs
          have HLL := Lib.hid hl
          have HRDC := Lib.hid hrd
          clear hs hl hrd x0
          by_cases hbrk : k < s + (8 + l)
          · have hnk : (k : Int) < (s : Int) + (8 + (l : Int)) := by omega
            have hkk : c < n1 → k < logLen L (c + 1) := fun _ => by simp only [logLen]; rw [HS.out, HLL.out]; exact hbrk
            have hlgb' := HLOG.out c (by omega)
            rw [← HLG.out] at hk2 HFL
            rw [← HS.out] at hck
            clear HBL HLG HRDC
            have HTR := Lib.hid (tear_read L F n1 c k (logF L F n1) (fun i hi => by have := HLT.out i hi; omega) hcc hck hkk hk2 (fun _ _ => rfl))
            have hlc : logLen L c ≤ 20160 := by omega
            go_wp2_with fail
            refine ((HFL.out.cut hk2).read (by omega)).mono ?_
            rintro e w5 ⟨v5, rfl, hl5, hb5⟩
            rw [HTR.out] at hl5 ⊢
            have hout : RowsB w5 v5 c L F := by
              have h := (hl5.congr (L' := L) (F' := F) (fun r hr => (tear_rows L F n1 c k (logF L F n1) hcc hck (fun _ _ => rfl) (by rw [logRs_len] at hr; exact hr)).1) (fun r hr j hj => by
                rw [logRs_len] at hr
                have ht := tear_rows L F n1 c k (logF L F n1) hcc hck (fun _ _ => rfl) hr
                exact ht.2 j (by rw [← ht.1]; exact hj))).rows
              rw [logRs_len] at h
              exact h
            have HOUT := Lib.hid hout
            have HFL5 := Lib.hid ((HFL.out.cut hk2).below hb5)
            have HLR5 := Lib.hid (HLR.out.below hb5)
            have HB5 := Lib.hid (HB.out.trans (hb5.mono HB.out.size))
            clear hl5 hb5 hout HFL HLR HB
            go_wp2_with fail
            refine (HFL5.out.repair (by omega)).mono ?_
            rintro e w6 ⟨A6, c6, rfl, hb6, ho6⟩
            rw [HTR.out] at ho6 ⊢
            have HOUT6 := Lib.hid (HOUT.out.below hb6)
            have HLR6 := Lib.hid (HLR5.out.below hb6)
            have HB6 := Lib.hid (HB5.out.trans (hb6.mono HB5.out.size))
            have HO6 := Lib.hid ho6
            clear hb6 ho6 HOUT HFL5 HLR5 HB5
            have ho6' : Hid (w6.ownsRow _ 5 1 (.slice A6 (logLen L c) c6) (logLen L c) (bytesOf (logLen L c) (logF L F n1))) := HO6.out
            have hrm := Lib.hid (((HR2.out.below HB6.out).reads (Nat.le_refl _)))
            go_wp2_with fail
            refine (append_ok _ A6 A2 (logLen L c) c6 n2 c2 (logF L F n1) f2 (Reads.of_own ho6'.out) hrm.out (by omega) (by omega)).mono ?_
            rintro e w7 ⟨A7, c7, rfl, hb7, ho7⟩
            have HOUT7 := Lib.hid (HOUT6.out.below hb7)
            have HLR7 := Lib.hid (HLR6.out.below hb7)
            have HB7 := Lib.hid (HB6.out.trans (hb7.mono HB6.out.size))
            have HF7 := Lib.hid (FlatB.of_own ho7)
            have HMR := Lib.hid (mend_read L F n1 c n2 f2 (fun i hi => by have := HLT.out i hi; omega) (by omega) hcc)
            clear hb7 ho7 HOUT6 HLR6 HB6 HO6 ho6' hrm
            go_wp2_with fail
            refine (HF7.out.read (by omega)).mono ?_
            rintro e w8 ⟨v8, rfl, hl8, hb8⟩
            rw [HMR.out] at hl8 ⊢
            have hag : RowsB w8 v8 (c + 1) (moreL L c n2) (moreF F c f2) := by
              have h := (hl8.congr (L' := moreL L c n2) (F' := moreF F c f2) (fun r hr => (mend_rows L F n1 c n2 f2 hcc (by rw [logRs_len] at hr; exact hr)).1) (fun r hr j hj => by
                rw [logRs_len] at hr
                have ht := mend_rows L F n1 c n2 f2 hcc hr
                exact ht.2 j (by rw [← ht.1]; exact hj))).rows
              rw [logRs_len] at h
              exact h
            have HAG := Lib.hid hag
            have HOUT8 := Lib.hid (HOUT7.out.below hb8)
            have HLR8 := Lib.hid (HLR7.out.below hb8)
            have HB8 := Lib.hid (HB7.out.trans (hb8.mono HB7.out.size))
            clear hl8 hb8 hag HOUT7 HLR7 HB7 HF7 HMR HTR
            obtain ⟨lc, hlce⟩ : ∃ lc, logLen L c = lc := ⟨_, rfl⟩
            rw [hlce]
            clear hlce hlc hck hkk
            go_wp2_with fail
            refine (samelists_any _ _ _ c L F F HOUT8.out (HLR8.out.rows HB8.out) (fun _ _ _ _ => rfl) (by omega)).mono ?_
            rintro e w9 ⟨rfl, hb9⟩
            have HAG9 := Lib.hid (HAG.out.below hb9)
            have hlr9 := HLR8.out.below hb9
            have HB9 := Lib.hid (HB8.out.trans (hb9.mono HB8.out.size))
            obtain ⟨xs, hx1, hx2⟩ := hlr9
            have HX2 := Lib.hid hx2
            have HX1 := Lib.hid hx1
            have HXO := Lib.hid (ListR.one hx1 hx2)
            have HOL9 := Lib.hid (lit_owns w9 22)
            have HXR := Lib.hid ((Reads.of_own hx1).alloc (Nat.le_refl _) (.cells #[] 22))
            clear hb9 hx1 hx2 HAG HOUT8 HLR8 HB8
            go_wp2_with (first
              | (at_builtin
                 refine wpList_append_g _ ?_ (.tmp 89) (.tmp 90) _ rfl w9.heap.size 22 i0 _ 1 24 Try.underlying23 hi0 hz0 hz1 hz2 rfl (by omega) _ 0 [] rfl
                   HOL9.out _ _ c _ _ rfl HXR.out HXO.out (by unfold maxLen; omega) (by omega) (by simp) ?_
                 · rfl
                 intro v10 w10 ho10 hg10 hat10
                 rw [Nat.zero_add, List.nil_append] at ho10
                 have hb10 : Below w9.heap.size w9 w10 := ((Below.refl _ _).alloc (Nat.le_refl _) _).grown hg10 (by rw [World.size_alloc]; omega) (fun g e => by have := Option.some.inj (show some w9.heap.size = some g from e); omega)
                 obtain ⟨A10, c10, rfl⟩ := own_form ho10
                 have hz10 := hb10.size
                 have hb11 : Below w9.heap.size w9 (w10.alloc (.cells #[.slice A2 n2 c2] 22)) := hb10.alloc hz10 _
                 have HO10 := Lib.hid (owns_below ho10 ((Below.refl _ _).alloc (Nat.le_refl _) (.cells #[.slice A2 n2 c2] 22)))
                 have HB11 := Lib.hid hb11
                 have HN := Lib.hid (one_reads w10 A2 n2 c2)
                 clear ho10 hg10 hat10 hb10 hb11)
              | (at_builtin
                 refine wpList_append_g _ ?_ (.tmp 91) (.tmp 93) _ rfl w9.heap.size 22 i0 _ 1 24 Try.underlying23 hi0 hz0 hz1 hz2 rfl (by omega) _ c xs rfl
                   HO10.out _ _ 1 1 _ rfl HN.out (by intro u hu; simp at hu; subst hu; rfl) (by unfold maxLen; omega) (by omega) (by rw [World.size_alloc]; omega) ?_
                 · rfl
                 intro v12 w12 ho12 hg12 hat12
                 have hb12 : Below w9.heap.size w9 w12 := HB11.out.grown hg12 HB11.out.size (fun g e => (HO10.out.lt g e).1)
                 have hls : ListR w w12 w9.heap.size v12 (c + 1) (moreL L c n2) (moreF F c f2) := by
                   refine ListR.snoc (f := f2) HO10.out (fun r hr => ?_) (HR2.out.reads (Nat.le_refl _)) ho12 moreL_eq moreF_eq
                   obtain ⟨A, c', e, hu⟩ := HX2.out r hr
                   rw [moreL_lt hr, moreF_lt hr]
                   exact ⟨A, c', e, hu⟩
                 have HLS := Lib.hid hls
                 have HB12 := Lib.hid hb12
                 clear ho12 hg12 hat12 hb12 hls))
            have hbw := HB9.out.trans (HB12.out.mono HB9.out.size)
            refine (samelists_any _ _ _ (c + 1) (moreL L c n2) (moreF F c f2) (moreF F c f2) (HAG9.out.below HB12.out) (HLS.out.rows hbw) (fun _ _ _ _ => rfl) (by omega)).mono ?_
            rintro e w13 ⟨rfl, hb13⟩
            have HB13 := Lib.hid (hbw.trans (hb13.mono hbw.size))
            clear hbw hb13
            go_wp2_with fail
            refine (known_any _).mono ?_
            rintro e w14 ⟨rfl, hb14⟩
            go_wp2_with fail
            go_ret
            exact ⟨rfl, HB13.out.trans (hb14.mono HB13.out.size)⟩
          · skip
            have hnk : ¬ (k : Int) < (s : Int) + (8 + (l : Int)) := by omega
            have hlr2 := HLR.out.below ((Below.refl wr.heap.size wr).alloc (Nat.le_refl _) (.cells #[.slice Ac l cc] 22))
            obtain ⟨xs, hx1, hx2⟩ := hlr2
            have HX1 := Lib.hid hx1
            have HX2 := Lib.hid hx2
            have HN := Lib.hid (one_reads wr Ac l cc)
            clear hx1 hx2
            go_wp2_with (first
              | (at_builtin
                 refine wpList_append_any _ rfl (.tmp 48) (.tmp 50) _ rfl w1.heap.size 22 i0 _ 1 24 Try.underlying23 hi0 hz0 hz1 hz2 rfl (by omega) _ c xs rfl
                   HX1.out _ _ 1 1 _ rfl HN.out (by intro u hu; simp at hu; subst hu; rfl) (by unfold maxLen; omega) (by omega) (by rw [World.size_alloc]; omega) ?_
                 intro v6 w6 ho6 hg6 hat6
                 have hb6 : Below w1.heap.size w1 w6 := (HBL.out.alloc hzb _).grown hg6 (by rw [World.size_alloc]; omega) (fun g e => (HX1.out.lt g e).1)
                 have HL6 := Lib.hid (ListR.snoc (f := F c) HX1.out HX2.out (by rw [HLL.out] at *; exact HRDC.out) ho6 HLL.out rfl)
                 have HB6 := Lib.hid hb6
                 clear ho6 hg6 hat6 hb6))
            go_roundw
            case rel => exact ⟨c + 1, by omega, by go_num, by simp only [logLen]; rw [HS.out, HLL.out]; push_cast; rfl, by simp only [logLen]; rw [HS.out, HLL.out]; omega, HB6.out, HL6.out⟩
            case measure => simp [intOf]; omega
        · exfalso
          obtain rfl : c = n1 := by omega
          have := HHK.out
          omega

theorem jourTears_any (w : World) (A2 : Option Addr) (n2 c2 : Nat) (f2 : Nat → UInt8) (v1 : Value) (n1 : Nat) (L : Nat → Nat) (F : Nat → Nat → UInt8) (t : Int)
    (hr2 : FlatB w A2 n2 c2 f2) (h1 : RowsB w v1 n1 L F) (hn2 : n2 ≤ 1048576) (hn1 : n1 ≤ 1048576) (hL : ∀ r, r < n1 → L r ≤ 1048576) (ht1 : -9223372036854775808 ≤ t) (ht2 : t ≤ 9223372036854775807) :
    Calls Try.prog 6 #[v1, .int .i64 t, .slice A2 n2 c2] w fun e w' => e = .returned (.bool true) ∧ Below w.heap.size w w' := by
  have h0 := Int.emod_nonneg t (show ((logLen L n1 + 1 : Nat) : Int) ≠ 0 by omega)
  by_cases h : t % ((logLen L n1 + 1 : Nat) : Int) < (logLen L n1 : Nat)
  · exact jourTears_torn w A2 n2 c2 f2 v1 n1 L F t hr2 h1 hn2 hn1 hL ht1 ht2 (fun k hk => Lib.hid (by omega))
  · refine jourTears_whole w A2 n2 c2 f2 v1 n1 L F t hr2 h1 hn2 hn1 hL ht1 ht2 (fun k hk => Lib.hid (fun r hr => ?_))
    have hm := logLen_mono L (show r + 1 ≤ n1 by omega)
    simp only [logLen] at hm
    omega
end Go.Proofs.Ytjiiaepmdlempaa
