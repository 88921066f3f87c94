/- play of chapter 16. -/
import Derived.Test.YtnihkjhejjeepaaSlR4
namespace Go.Proofs.Ytnihkjhejjeepaa
open Go.RowKit
set_option linter.unusedVariables false
set_option linter.unusedSimpArgs false
open ShaW Sha

theorem results_tmp_cell_tmp {P : Program} {fn : Func} {o p q : Tmp} {ty : TypeId} (h : fn.results = #[.tmp o, .cell p ty, .tmp q]) (tmps : Array Value) (w : World) (g : Nat) (t : TypeId) (cs : Array Value) (fr : Nat × Nat) (d : TypeDesc)
    (hp : tmps.getD p undef = .pointer (some ⟨g, 0, none⟩)) (hg : w.heap[g]? = some (.cells cs t fr))
    (hu : P.underlying ty = some d) (hd : (match d with | .struct _ | .array _ _ => true | _ => false) = true) (hi : (P.info? ty).map (·.size) = some cs.size) :
    (results fn tmps).run P w = .ok (.tuple #[tmps.getD o undef, .agg cs, tmps.getD q undef]) w := by
  have hp' : tmps[p]?.getD undef = .pointer (some ⟨g, 0, none⟩) := by simpa using hp
  simp [results, h, hp', asAddr, run_loadVar_row w g t ty cs fr d hg hu hd hi]
structure PSt (w0 : World) (B D C gb g3 n N : Nat) (m : RSt) (pv fv : Value) (L : List PRow) (W : World) : Prop where
  bel : Below B w0 W
  le : B ≤ W.heap.size
  num : NumAt W B D n N
  slb : SlR W B C m
  ref : RefS W B pv fv m L
  box : Blk W gb 28 #[.int .i64 (m.most : Int), pv, fv]
  rbx : Blk W g3 28 #[.int .i64 0, .slice none 0 0, .slice none 0 0]
  wf : WfR m N
  gbB : B ≤ gb
  g3n : g3 ≠ gb
theorem PSt.below {w0 : World} {B D C gb g3 n N : Nat} {m : RSt} {pv fv : Value} {L : List PRow} {W W' : World} (h : PSt w0 B D C gb g3 n N m pv fv L W) (hb : Below W.heap.size W W') : PSt w0 B D C gb g3 n N m pv fv L W' :=
  ⟨h.bel.trans (hb.mono h.le), Nat.le_trans h.le hb.size, h.num.below_ h.le hb, h.slb.below hb, h.ref.below hb, h.box.below hb h.box.lt, h.rbx.below hb h.rbx.lt, h.wf, h.gbB, h.g3n⟩
theorem PSt.next {w0 : World} {B D C gb g3 n N N' : Nat} {m : RSt} {pv fv : Value} {L : List PRow} {W W' : World} (h : PSt w0 B D C gb g3 n N m pv fv L W) (ho : Only (fun k => k = D) W W') (hn : NumAt W' B D n N') (hN : N ≤ N') : PSt w0 B D C gb g3 n N' m pv fv L W' := by
  obtain ⟨cs, hk⟩ := h.num.blk
  exact ⟨Only.below_trans h.bel ho h.le (fun k hk => by rw [hk]; exact h.num.ge), Nat.le_trans h.le ho.size, hn, h.slb.num h.num ho, h.ref.num h.num ho, h.box.only ho (Blk.ne_ h.box hk (by decide)), h.rbx.only ho (Blk.ne_ h.rbx hk (by decide)), h.wf.more hN, h.gbB, h.g3n⟩
/-- a turn: the reference's call, then the program's, then the variable of the reference's store -/
theorem PSt.turn {w0 : World} {B D C gb g3 n N : Nat} {m m' : RSt} {pv fv pv' fv' : Value} {L L' : List PRow} {W W1 W2 W3 W4 : World} (h : PSt w0 B D C gb g3 n N m pv fv L W) (hb : Below W.heap.size W W1) (hr : RefS W1 B pv' fv' m' L') (ho : Only (SFoot W1 B) W1 W2) (hs : SlR W2 B C m') (hb2 : Below W2.heap.size W2 W3) (hw : WfR m' N)
    (ho4 : Only (fun k => k = gb) W3 W4) (hbx : Blk W4 gb 28 #[.int .i64 (m'.most : Int), pv', fv']) : PSt w0 B D C gb g3 n N m' pv' fv' L' W4 := by
  have h1 := h.below hb
  obtain ⟨cs, hk⟩ := h1.num.blk
  have hz2 : B ≤ W2.heap.size := Nat.le_trans h1.le ho.size
  have hz3 : B ≤ W3.heap.size := Nat.le_trans hz2 hb2.size
  have n2 := (h1.num.only ho h1.le SFoot.ge (SFoot.not hk (by decide))).below_ hz2 hb2
  obtain ⟨cs3, hk3⟩ := n2.blk
  have b3 : Blk W3 gb 28 #[.int .i64 (m.most : Int), pv, fv] := (h1.box.only ho (SFoot.not h1.box (by decide))).below hb2 (h1.box.only ho (SFoot.not h1.box (by decide))).lt
  have r3 := (h1.rbx.only ho (SFoot.not h1.rbx (by decide))).below hb2 (h1.rbx.only ho (SFoot.not h1.rbx (by decide))).lt
  refine ⟨Only.below_trans ((Only.below_trans h1.bel ho h1.le SFoot.ge).trans (hb2.mono hz2)) ho4 hz3 (fun k hk => by rw [hk]; exact h.gbB), Nat.le_trans hz3 ho4.size, n2.only ho4 hz3 (fun k hk => by rw [hk]; exact h.gbB) (fun e => Blk.ne_ hk3 b3 (by decide) e), (hs.below hb2).apart ho4 (fun g hg => ⟨28, _, hg.symm ▸ b3, by decide⟩), ((hr.slab ho).below hb2).apart ho4 (fun g hg => ⟨28, _, hg.symm ▸ b3, by decide⟩), hbx, r3.only ho4 h.g3n, hw, h.gbB, h.g3n⟩
theorem PSt.hand {w0 : World} {B D C gb g3 n N : Nat} {m : RSt} {pv fv : Value} {L : List PRow} {W W' : World} (h : PSt w0 B D C gb g3 n N m pv fv L W) {hb : Nat} {cs : Array Value} (hk : Blk W hb 43 cs) (hB : B ≤ hb) (ho : Only (fun k => k = hb) W W') : PSt w0 B D C gb g3 n N m pv fv L W' := by
  obtain ⟨csn, hkn⟩ := h.num.blk
  exact ⟨Only.below_trans h.bel ho h.le (fun k hk => by rw [hk]; exact hB), Nat.le_trans h.le ho.size, h.num.only ho h.le (fun k hk => by rw [hk]; exact hB) (fun e => Blk.ne_ hkn hk (by decide) e), h.slb.apart ho (fun g hg => ⟨43, _, hg.symm ▸ hk, by decide⟩), h.ref.apart ho (fun g hg => ⟨43, _, hg.symm ▸ hk, by decide⟩), h.box.only ho (Blk.ne_ h.box hk (by decide)), h.rbx.only ho (Blk.ne_ h.rbx hk (by decide)), h.wf, h.gbB, h.g3n⟩
theorem Made.small {e : Ent} (h : Made e) : Small e := ⟨Nat.le_trans h.rn (by decide), Nat.le_trans h.pn (by decide)⟩
theorem sbox3 {W : World} {g : Nat} {a b c a' b' c' : Value} (h : Blk W g 28 #[a', b', c']) : Blk (((W.setCell ⟨g, 0, none⟩ a).setCell ⟨g, 1, none⟩ b).setCell ⟨g, 2, none⟩ c) g 28 #[a, b, c] := ((h.set_ 0 a).set_ 1 b).set_ 2 c
theorem sonly3 (W : World) (g : Nat) (a b c : Value) : Only (fun k => k = g) W (((W.setCell ⟨g, 0, none⟩ a).setCell ⟨g, 1, none⟩ b).setCell ⟨g, 2, none⟩ c) := (((Only.refl (fun k => k = g) W).setCell_ (p := ⟨g, 0, none⟩) (.inl rfl) _).setCell_ (p := ⟨g, 1, none⟩) (.inl rfl) _).setCell_ (p := ⟨g, 2, none⟩) (.inl rfl) _
def PlayPost (w : World) (B : Nat) (e : Ending) (w' : World) : Prop := ∃ C m pv fv L k, e = .returned (.tuple #[.pointer (some ⟨C, 0, none⟩), storeV m pv fv, .bool true]) ∧ Below B w w' ∧ B ≤ w'.heap.size ∧ SlR w' B C m ∧ RefS w' B pv fv m L ∧ WfR m k ∧ k ≤ 1000
def PRel (w0 : World) (B D C gb g3 n : Nat) (W : World) : Prop := ∃ m pv fv L N, PSt w0 B D C gb g3 n N m pv fv L W ∧ N ≤ n + 30
set_option maxRecDepth 100000 in
set_option maxHeartbeats 16000000 in
attribute [local go_sem ↓] wp_load_ent wp_store_ent in
theorem play_any (w : World) (B n c : Nat) (A : Option Addr) (f : Nat → Int) (h : IntsAt w B A n c f) (hB : B ≤ w.heap.size) (hn : n ≤ 160) :
    Calls Try.prog 10 #[.slice A n c] w (PlayPost w B) := by
  have HI := Lib.hid h
  clear h
  go_enter Try.func10, Try.ntmps10
  go_upto_region 1 with (fail)
  generalize hwa : World.alloc w _ = wa
  obtain ⟨g3, hg3⟩ : ∃ g, w.heap.size = g := ⟨_, rfl⟩
  have hb0 : Below B w wa := by rw [← hwa]; exact (Below.refl _ _).alloc hB _
  have hr0 : Blk wa g3 28 #[.int .i64 0, .slice none 0 0, .slice none 0 0] := by rw [← hwa, ← hg3]; exact heap_alloc_new _ _
  have hI := HI.out.below hb0
  have HB0 := Lib.hid hb0
  have HR0 := Lib.hid hr0
  have HG3 : Hid (w.heap.size = g3) := hg3
  have hBa : B ≤ wa.heap.size := Nat.le_trans hB hb0.size
  have hg3B : B ≤ g3 := by rw [← HG3.out]; exact hB
  have hg3l := hr0.lt
  rw [hg3]
  clear hwa hb0 hr0 hg3
  go_wp2_with fail
  refine (from_any wa B n c A f hI hBa).mono ?_
  rintro e w2 ⟨rfl, hb2, hs2, hn2⟩
  obtain ⟨D, hD⟩ : ∃ D, wa.heap.size = D := ⟨_, rfl⟩
  rw [hD] at hn2 ⊢
  have HN2 := Lib.hid hn2
  have HB2 := Lib.hid (HB0.out.trans (hb2.mono hBa))
  have HR2 := Lib.hid (HR0.out.below hb2 HR0.out.lt)
  have hz2 : B ≤ w2.heap.size := Nat.le_trans hBa hb2.size
  have hDB : B ≤ D := by omega
  clear hI hb2 hs2 hn2 hD
  go_wp2_with fail
  refine (next_any w2 B D n 0 9 HN2.out (by omega) (by omega) (by omega)).mono ?_
  rintro e w3 ⟨mo, hmo, rfl, ho3, hsz3, hn3⟩
  obtain ⟨csN, hkN⟩ := HN2.out.blk
  have HN3 := Lib.hid hn3
  have HB3 := Lib.hid (Only.below_trans HB2.out ho3 hz2 (fun k hk => by omega))
  have HR3 := Lib.hid (HR2.out.only ho3 (Blk.ne_ HR2.out hkN (by decide)))
  have hz3 : B ≤ w3.heap.size := Nat.le_trans hz2 ho3.size
  have g1 : IntKind.i64.wrap ((mo : Int) - 1) = (mo : Int) - 1 := IntWalk.i64_in _ (by omega)
  clear ho3 hsz3 hn3 hkN
  go_wp2_with fail
  refine (rnew_any w3 B hz3 _ (by omega)).mono ?_
  rintro e w4 ⟨rfl, hb4, hs4, hr4⟩
  obtain ⟨C, hC⟩ : ∃ C, w3.heap.size = C := ⟨_, rfl⟩
  rw [hC] at hr4 ⊢
  have HS4 := Lib.hid hr4
  have HN4 := Lib.hid (HN3.out.below_ hz3 hb4)
  have HB4 := Lib.hid (HB3.out.trans (hb4.mono hz3))
  have HR4 := Lib.hid (HR3.out.below hb4 HR3.out.lt)
  have hz4 : B ≤ w4.heap.size := Nat.le_trans hz3 hb4.size
  clear hb4 hs4 hr4 hC
  go_wp2_with fail
  refine (rnewst_any w4 _ (by omega)).mono ?_
  rintro e w5 ⟨rfl, hb5⟩
  have HS5 := Lib.hid (HS4.out.below hb5)
  have HN5 := Lib.hid (HN4.out.below_ hz4 hb5)
  have HB5 := Lib.hid (HB4.out.trans (hb5.mono hz4))
  have HR5 := Lib.hid (HR4.out.below hb5 HR4.out.lt)
  have hz5 : B ≤ w5.heap.size := Nat.le_trans hz4 hb5.size
  clear hb5
  obtain ⟨cl, hcl⟩ : ∃ x, clampS ((mo : Int) - 1) = x := ⟨_, rfl⟩
  have hwf := wf0 ((mo : Int) - 1) 1
  rw [hcl] at HS5 hwf ⊢
  have HWF := Lib.hid hwf
  clear hcl hwf
  go_upto_region 4 with (fail)
  generalize hwa : World.alloc w5 _ = w6
  obtain ⟨gb, hgb⟩ : ∃ g, w5.heap.size = g := ⟨_, rfl⟩
  have hb6 : Below w5.heap.size w5 w6 := by rw [← hwa]; exact (Below.refl _ _).alloc (Nat.le_refl _) _
  have hx6 : Blk w6 gb 28 #[.int .i64 (cl : Int), .slice none 0 0, .slice none 0 0] := by rw [← hwa, ← hgb]; exact heap_alloc_new _ _
  have HREL : Hid (PRel w B D C gb g3 n w6) := ⟨⟨cl, [], []⟩, .slice none 0 0, .slice none 0 0, [], 1, ⟨HB5.out.trans (hb6.mono hz5), Nat.le_trans hz5 hb6.size, HN5.out.below_ hz5 hb6, HS5.out.below hb6, ⟨rfl, World.ownsRow_nil _ _ _ _, fun r hr => (by cases hr), World.ownsRow_nil _ _ _ _⟩, hx6, HR5.out.below hb6 HR5.out.lt, HWF.out, by omega, fun e => by have := HR5.out.lt; omega⟩, by omega⟩
  rw [hgb]
  clear hwa hb6 hx6 hgb HS5 HN5 HB5 HR5 HN2 HB2 HR2 HN3 HB3 HR3 HS4 HN4 HB4 HR4
  go_wp2_with fail
  go_loopw [] (fun wr => PRel w B D C gb g3 n wr) (fun wr => n - numC wr D)
  case atStart => exact HREL.out
  case round =>
    obtain ⟨m, pv, fv, L, N, hst, hN⟩ := hrel
    obtain ⟨Ap, cp, hpv⟩ := own_form hst.ref.row
    obtain ⟨Af, cf, hfv⟩ := own_form hst.ref.fre
    obtain ⟨pn, hpn⟩ : ∃ x, L.length = x := ⟨_, rfl⟩
    obtain ⟨fn, hfn⟩ : ∃ x, m.fr.length = x := ⟨_, rfl⟩
    obtain ⟨most, hmo⟩ : ∃ x, m.most = x := ⟨_, rfl⟩
    rw [hpn] at hpv
    rw [hfn] at hfv
    have x1 : wr.cell? ⟨D, 1, none⟩ = some (.int .i64 (N : Int)) := by obtain ⟨_, _, _, _, hh, _⟩ := hst.num; exact hh.cell 1
    have HST := Lib.hid hst
    have HPV := Lib.hid hpv
    have HFV := Lib.hid hfv
    have HMO := Lib.hid hmo
    have HSV : Hid (storeV m pv fv = .agg #[.int .i64 (most : Int), .slice Ap pn cp, .slice Af fn cf]) := Lib.hid (by rw [hpv, hfv, ← hmo])
    have hNC := Lib.hid hst.num.numC
    have hzr := hst.le
    clear hst hpv hfv hmo hpn hfn HREL
    rcases Nat.lt_or_ge N n with hlt | hge
    · have t1 : (N : Int) < n := by omega
      go_wp2_with fail
      refine (next_any wr B D n N 9 HST.out.num (by omega) (by omega) (by omega)).mono ?_
      rintro e w2 ⟨a9, ha9, rfl, ho2, hsz2, hn2⟩
      have HS2 := Lib.hid (HST.out.next ho2 hn2 (by omega))
      have g7 : IntKind.i64.wrap ((a9 : Int) - 1) = (a9 : Int) - 1 := IntWalk.i64_in _ (by omega)
      clear ho2 hn2 hsz2 x1
      go_wp2_with fail
      refine (next_any w2 B D n (N + 1) 3 HS2.out.num (by omega) (by omega) (by omega)).mono ?_
      rintro e w3 ⟨b9, hb9, rfl, ho3, hsz3, hn3⟩
      have HS3 := Lib.hid (HS2.out.next ho3 hn3 (by omega))
      have g8 : IntKind.i64.wrap ((b9 : Int) - 1) = (b9 : Int) - 1 := IntWalk.i64_in _ (by omega)
      clear ho3 hn3 hsz3 HS2
      go_upto_region 8 with (fail)
      generalize hwa : World.alloc _ _ = w4
      obtain ⟨hb, hhb⟩ : ∃ b, w3.heap.size = b := ⟨_, rfl⟩
      have hb4 : Below w3.heap.size w3 w4 := by rw [← hwa]; exact (Below.refl _ _).alloc (Nat.le_refl _) _
      have hh4 : Blk w4 hb 43 #[.int .i64 ((a9 : Int) - 1), .int .i64 ((b9 : Int) - 1)] := by rw [← hwa, ← hhb]; exact heap_alloc_new _ _
      have HS4 := Lib.hid (HS3.out.below hb4)
      have HH4 := Lib.hid hh4
      have hhB : B ≤ hb := by rw [← hhb]; exact HS3.out.le
      have hbx := HS4.out.box
      rw [HPV.out, HFV.out, HMO.out] at hbx
      have y0 : w4.cell? ⟨gb, 0, none⟩ = some (.int .i64 (most : Int)) := hbx.cell 0
      have y1 : w4.cell? ⟨gb, 1, none⟩ = some (.slice Ap pn cp) := hbx.cell 1
      have y2 : w4.cell? ⟨gb, 2, none⟩ = some (.slice Af fn cf) := hbx.cell 2
      obtain ⟨ct, hct⟩ : ∃ x, cntP m.pl = x := ⟨_, rfl⟩
      have HCT := Lib.hid hct
      have hct2 : ct ≤ 300 := by have h1 := cntP_len m.pl; have h2 := HS4.out.wf.len; omega
      have HHD : Hid (Calls Try.prog 24 #[.agg #[.int .i64 (most : Int), .slice Ap pn cp, .slice Af fn cf]] w4 fun e w' => ∃ A c, e = .returned (.slice A ct c) ∧ Below w4.heap.size w4 w' ∧ w'.ownsRow w4.heap.size 43 2 (.slice A ct c) (hdlsP m.pl).length (hdlsV (hdlsP m.pl))) := by
        have h1 := rhandles_any w4 B pv fv m L (N + 1 + 1) HS4.out.ref HS4.out.wf (by omega)
        rw [HSV.out, HCT.out] at h1
        exact h1
      rw [hhb]
      clear hwa hb4 hh4 hhb hbx HS3 hct
      go_wp2_with fail
      refine HHD.out.mono ?_
      rintro e w5 ⟨Ah, ch, rfl, hb5, ho5⟩
      have HS5 := Lib.hid (HS4.out.below hb5)
      have HH5 := Lib.hid (HH4.out.below hb5 HH4.out.lt)
      have HO5 := Lib.hid ho5
      clear hb5 ho5 HHD y0 y1 y2 HS4 HH4
      go_upto_region 9 with (fail)
      go_cut [55] (fun s55 wx => ∃ bb N2, s55 = .bool bb ∧ (bb = true → 0 < ct) ∧ PSt w B D C gb g3 n N2 m pv fv L wx ∧ N2 ≤ N + 4 ∧ N + 1 ≤ N2 ∧ Blk wx hb 43 #[.int .i64 ((a9 : Int) - 1), .int .i64 ((b9 : Int) - 1)] ∧ wx.ownsRow w4.heap.size 43 2 (.slice Ah ct ch) (hdlsP m.pl).length (hdlsV (hdlsP m.pl)))
      case first =>
        rcases Nat.eq_zero_or_pos ct with h0 | h0
        · have H0 := Lib.hid h0
          clear h0
          have t2 : ¬ (ct : Int) > 0 := by have := H0.out; omega
          go_wp2_with fail
          go_meet
          exact ⟨false, _, rfl, fun h => (by cases h), HS5.out, by omega, by omega, HH5.out, HO5.out⟩
        · have t2 : (ct : Int) > 0 := by omega
          go_wp2_with fail
          refine (next_any w5 B D n (N + 1 + 1) 3 HS5.out.num (by omega) (by omega) (by omega)).mono ?_
          rintro e w6 ⟨q, hq, rfl, ho6, hsz6, hn6⟩
          obtain ⟨csn, hkn⟩ := HS5.out.num.blk
          have HS6 := Lib.hid (HS5.out.next ho6 hn6 (by omega))
          have HH6 := Lib.hid (HH5.out.only ho6 (Blk.ne_ HH5.out hkn (by decide)))
          have HO6 := Lib.hid (owns_only HO5.out ho6 (fun g h1 h2 => own_blk_ne HO5.out hkn (by decide) (h2 ▸ h1)))
          clear ho6 hn6 hsz6 hkn
          go_wp2_with fail
          go_meet
          exact ⟨_, _, rfl, fun _ => h0, HS6.out, by omega, by omega, HH6.out, HO6.out⟩
      case rest =>
        obtain ⟨bb, N2, hs55, hct0, hs, hN2, hN2', hh, ho⟩ := hcut
        subst hs55
        have HSC := Lib.hid hs
        have HHC := Lib.hid hh
        have HOC := Lib.hid ho
        have HC0 := Lib.hid hct0
        clear hs hh ho hct0 HS5 HH5 HO5 HST
        cases bb with
        | false =>
          have hNb : N2 ≤ N + 5 ∧ N + 1 ≤ N2 := by omega
          go_wp2_with fail
          refine (next_any wc B D n N2 5 HSC.out.num (by omega) (by omega) (by omega)).mono ?_
          rintro e w8 ⟨q5, hq5, rfl, ho8, hsz8, hn8⟩
          obtain ⟨csn, hkn⟩ := HSC.out.num.blk
          have HSE := Lib.hid (HSC.out.next ho8 hn8 (Nat.le_succ _))
          have HHE := Lib.hid (HHC.out.only ho8 (Blk.ne_ HHC.out hkn (by decide)))
          clear ho8 hn8 hsz8 hkn
          rcases Nat.lt_or_ge q5 2 with hql | hqg
          · have t4 : (q5 : Int) < 2 := by omega
            have hbx := HSE.out.box
            rw [HPV.out, HFV.out, HMO.out] at hbx
            have y0 : w8.cell? ⟨gb, 0, none⟩ = some (.int .i64 (most : Int)) := hbx.cell 0
            have y1 : w8.cell? ⟨gb, 1, none⟩ = some (.slice Ap pn cp) := hbx.cell 1
            have y2 : w8.cell? ⟨gb, 2, none⟩ = some (.slice Af fn cf) := hbx.cell 2
            have k0 : w8.cell? ⟨hb, 0, none⟩ = some (.int .i64 ((a9 : Int) - 1)) := HHE.out.cell 0
            have k1 : w8.cell? ⟨hb, 1, none⟩ = some (.int .i64 ((b9 : Int) - 1)) := HHE.out.cell 1
            have hlb := hbx.lt
            have hlh := HHE.out.lt
            clear hbx
            cases hok : m.ok ((a9 : Int) - 1) ((b9 : Int) - 1) with
            | false =>
              have HRM : Hid (Calls Try.prog 28 #[.agg #[.int .i64 (most : Int), .slice Ap pn cp, .slice Af fn cf], .agg #[.int .i64 ((a9 : Int) - 1), .int .i64 ((b9 : Int) - 1)]] w8 fun e w' => e = .returned (.tuple #[.agg #[.int .i64 (most : Int), .slice Ap pn cp, .slice Af fn cf], .bool false]) ∧ Below w8.heap.size w8 w') := by
                have h1 := rremr_no w8 B pv fv m L _ HSE.out.ref HSE.out.le HSE.out.wf (by omega) ((a9 : Int) - 1) ((b9 : Int) - 1) hok
                unfold RemRNo at h1
                rw [HSV.out] at h1
                exact h1
              have HOK := Lib.hid hok
              clear hok
              go_wp2_with fail
              refine HRM.out.mono ?_
              rintro e w9 ⟨rfl, hb9⟩
              clear HRM
              have HB9 := Lib.hid hb9
              have hz9 := hb9.size
              clear hb9 y0 y1 y2 k0 k1
              go_upto_region 13 with (fail)
              generalize hwa : World.alloc _ _ = w10
              obtain ⟨g2, hg2⟩ : ∃ g, w9.heap.size = g := ⟨_, rfl⟩
              have hb10 : Below w9.heap.size w9 w10 := by rw [← hwa]; exact (Below.refl _ _).alloc (Nat.le_refl _) _
              have hx10 : Blk w10 g2 28 #[.int .i64 (most : Int), .slice Ap pn cp, .slice Af fn cf] := by rw [← hwa, ← hg2]; exact heap_alloc_new _ _
              have HB10 := Lib.hid (HB9.out.trans (hb10.mono hz9))
              have HX10 := Lib.hid hx10
              have HS10 := Lib.hid (HSE.out.below HB10.out)
              have HH10 := Lib.hid (HHE.out.below HB10.out HHE.out.lt)
              have hg2n : g2 ≠ gb := by have := HSE.out.box.lt; omega
              skip
              rw [hg2]
              have k0 : w10.cell? ⟨hb, 0, none⟩ = some (.int .i64 ((a9 : Int) - 1)) := HH10.out.cell 0
              have k1 : w10.cell? ⟨hb, 1, none⟩ = some (.int .i64 ((b9 : Int) - 1)) := HH10.out.cell 1
              clear hwa hb10 hx10 hg2
              have HRP : Hid (Calls Try.prog 18 #[.pointer (some ⟨C, 0, none⟩), .agg #[.int .i64 ((a9 : Int) - 1), .int .i64 ((b9 : Int) - 1)]] w10 fun e w' => e = .returned (.bool false) ∧ Below w10.heap.size w10 w') := rrem_no w10 B C m _ HS10.out.slb HS10.out.wf (by omega) ((a9 : Int) - 1) ((b9 : Int) - 1) HOK.out
              go_wp2_with fail
              refine HRP.out.mono ?_
              rintro e w11 ⟨rfl, hb11⟩
              have ho11 : Only (SFoot w10 B) w10 w11 := Only.of_below _ hb11
              have hs11 := HS10.out.slb.below hb11
              have HX11 := HX10.out.only ho11 (SFoot.not HX10.out (by decide))
              have HBX11 := HS10.out.box.only ho11 (SFoot.not HS10.out.box (by decide))
              have HO11 := Lib.hid ho11
              have HS11 := Lib.hid hs11
              have z0 : w11.cell? ⟨g2, 0, none⟩ = some (.int .i64 (most : Int)) := HX11.cell 0
              have z1 : w11.cell? ⟨g2, 1, none⟩ = some (.slice Ap pn cp) := HX11.cell 1
              have z2 : w11.cell? ⟨g2, 2, none⟩ = some (.slice Af fn cf) := HX11.cell 2
              rw [HPV.out, HFV.out, HMO.out] at HBX11
              have q0 := HBX11.cell 0
              have q1 := HBX11.cell 1
              have q2 := HBX11.cell 2
              have f0 := HBX11.frozen 0
              have f1 := HBX11.frozen 1
              have f2 := HBX11.frozen 2
              simp at q0 q1 q2
              have HBQ := Lib.hid HBX11
              clear ho11 hs11 HX11 HBX11 HRP k0 k1
              go_wp2_with fail
              go_roundw
              case rel =>
                have hwf := HSE.out.wf
                have hfin := HSE.out.turn HB10.out HS10.out.ref HO11.out HS11.out (Below.refl _ _) hwf (sonly3 w11 gb (.int .i64 (most : Int)) (.slice Ap pn cp) (.slice Af fn cf)) (by rw [HPV.out, HFV.out, HMO.out]; exact sbox3 HBQ.out)
                exact ⟨_, _, _, _, _, hfin, by omega⟩
              case measure =>
                have hwf := HSE.out.wf
                have hfin := HSE.out.turn HB10.out HS10.out.ref HO11.out HS11.out (Below.refl _ _) hwf (sonly3 w11 gb (.int .i64 (most : Int)) (.slice Ap pn cp) (.slice Af fn cf)) (by rw [HPV.out, HFV.out, HMO.out]; exact sbox3 HBQ.out)
                show n - numC _ D < n - numC _ D
                rw [hfin.num.numC, hNC.out]
                omega
            | true =>
              obtain ⟨i, p, hsi, hp, hpf, hpu⟩ := RSt.ok_some hok
              have HRM : Hid (Calls Try.prog 28 #[.agg #[.int .i64 (most : Int), .slice Ap pn cp, .slice Af fn cf], .agg #[.int .i64 ((a9 : Int) - 1), .int .i64 ((b9 : Int) - 1)]] w8 (RemRPost w8 B m i)) := by
                have h1 := rremr_ok w8 B pv fv m L _ HSE.out.ref HSE.out.le HSE.out.wf (by omega) i ((b9 : Int) - 1) p hp hpf hpu
                rw [HSV.out, ← hsi] at h1
                exact h1
              have HP := Lib.hid (And.intro hp (And.intro hpf hpu))
              have HSI : Hid (((a9 : Int) - 1) = (i : Int)) := hsi
              clear hp hpf hpu hsi hok
              go_wp2_with fail
              refine HRM.out.mono ?_
              rintro e w9 ⟨pv9, fv9, L9, rfl, hb9, hr9⟩
              obtain ⟨A9, c9, hpv9⟩ := own_form hr9.row
              obtain ⟨B9, d9, hfv9⟩ := own_form hr9.fre
              have HSV9 : Hid (storeV (m.rem i) pv9 fv9 = .agg #[.int .i64 (most : Int), .slice A9 L9.length c9, .slice B9 (m.rem i).fr.length d9]) := Lib.hid (by rw [hpv9, hfv9, ← HMO.out]; rfl)
              have HPV9 := Lib.hid hpv9
              have HFV9 := Lib.hid hfv9
              have HR9 := Lib.hid hr9
              obtain ⟨l9, hl9⟩ : ∃ x, L9.length = x := ⟨_, rfl⟩
              obtain ⟨m9, hm9⟩ : ∃ x, (m.rem i).fr.length = x := ⟨_, rfl⟩
              rw [hl9, hm9] at HSV9
              have HL9 := Lib.hid hl9
              have HM9 := Lib.hid hm9
              rw [HSV9.out]
              clear hr9 hpv9 hfv9 HRM hl9 hm9
              have HB9 := Lib.hid hb9
              have hz9 := hb9.size
              clear hb9 y0 y1 y2 k0 k1
              go_upto_region 13 with (fail)
              generalize hwa : World.alloc _ _ = w10
              obtain ⟨g2, hg2⟩ : ∃ g, w9.heap.size = g := ⟨_, rfl⟩
              have hb10 : Below w9.heap.size w9 w10 := by rw [← hwa]; exact (Below.refl _ _).alloc (Nat.le_refl _) _
              have hx10 : Blk w10 g2 28 #[.int .i64 (most : Int), .slice A9 l9 c9, .slice B9 m9 d9] := by rw [← hwa, ← hg2]; exact heap_alloc_new _ _
              have HB10 := Lib.hid (HB9.out.trans (hb10.mono hz9))
              have HX10 := Lib.hid hx10
              have HS10 := Lib.hid (HSE.out.below HB10.out)
              have HH10 := Lib.hid (HHE.out.below HB10.out HHE.out.lt)
              have hg2n : g2 ≠ gb := by have := HSE.out.box.lt; omega
              have HR10 := Lib.hid (HR9.out.below hb10)
              rw [hg2]
              have k0 : w10.cell? ⟨hb, 0, none⟩ = some (.int .i64 ((a9 : Int) - 1)) := HH10.out.cell 0
              have k1 : w10.cell? ⟨hb, 1, none⟩ = some (.int .i64 ((b9 : Int) - 1)) := HH10.out.cell 1
              clear hwa hb10 hx10 hg2
              have HRP : Hid (Calls Try.prog 18 #[.pointer (some ⟨C, 0, none⟩), .agg #[.int .i64 ((a9 : Int) - 1), .int .i64 ((b9 : Int) - 1)]] w10 fun e w' => e = .returned (.bool true) ∧ Only (SFoot w10 B) w10 w' ∧ SlR w' B C (m.rem i)) := by
                have h1 := rrem_ok w10 B C m _ HS10.out.slb HS10.out.le HS10.out.wf (by omega) i ((b9 : Int) - 1) p HP.out.1 HP.out.2.1 HP.out.2.2
                rw [← HSI.out] at h1
                exact h1
              go_wp2_with fail
              refine HRP.out.mono ?_
              rintro e w11 ⟨rfl, ho11, hs11⟩
              have HX11 := HX10.out.only ho11 (SFoot.not HX10.out (by decide))
              have HBX11 := HS10.out.box.only ho11 (SFoot.not HS10.out.box (by decide))
              have HO11 := Lib.hid ho11
              have HS11 := Lib.hid hs11
              have z0 : w11.cell? ⟨g2, 0, none⟩ = some (.int .i64 (most : Int)) := HX11.cell 0
              have z1 : w11.cell? ⟨g2, 1, none⟩ = some (.slice A9 l9 c9) := HX11.cell 1
              have z2 : w11.cell? ⟨g2, 2, none⟩ = some (.slice B9 m9 d9) := HX11.cell 2
              rw [HPV.out, HFV.out, HMO.out] at HBX11
              have q0 := HBX11.cell 0
              have q1 := HBX11.cell 1
              have q2 := HBX11.cell 2
              have f0 := HBX11.frozen 0
              have f1 := HBX11.frozen 1
              have f2 := HBX11.frozen 2
              simp at q0 q1 q2
              have HBQ := Lib.hid HBX11
              clear ho11 hs11 HX11 HBX11 HRP k0 k1
              go_wp2_with fail
              go_roundw
              case rel =>
                have hwf := HSE.out.wf.rem HP.out.1 HP.out.2.1
                have hfin := HSE.out.turn HB10.out HR10.out HO11.out HS11.out (Below.refl _ _) hwf (sonly3 w11 gb (.int .i64 (most : Int)) (.slice A9 l9 c9) (.slice B9 m9 d9)) (by rw [HPV9.out, HFV9.out, HL9.out, HM9.out]; show Blk _ _ _ #[.int .i64 (m.most : Int), _, _]; rw [HMO.out]; exact sbox3 HBQ.out)
                exact ⟨_, _, _, _, _, hfin, by omega⟩
              case measure =>
                have hwf := HSE.out.wf.rem HP.out.1 HP.out.2.1
                have hfin := HSE.out.turn HB10.out HR10.out HO11.out HS11.out (Below.refl _ _) hwf (sonly3 w11 gb (.int .i64 (most : Int)) (.slice A9 l9 c9) (.slice B9 m9 d9)) (by rw [HPV9.out, HFV9.out, HL9.out, HM9.out]; show Blk _ _ _ #[.int .i64 (m.most : Int), _, _]; rw [HMO.out]; exact sbox3 HBQ.out)
                show n - numC _ D < n - numC _ D
                rw [hfin.num.numC, hNC.out]
                omega
          · have t4 : ¬ (q5 : Int) < 2 := by omega
            go_wp2_with fail
            refine (mkEntry_any w8 B D n (N2 + 1) HSE.out.num HSE.out.le (by omega)).mono ?_
            rintro e w9 ⟨en, rv, pe, N3, rfl, ho9, hn9, hN3a, hN3b, he9, hm9⟩
            have HS9 := Lib.hid (HSE.out.next ho9 hn9 (by omega))
            have HM := Lib.hid hm9.small
            have HE9 := Lib.hid (he9.less HSE.out.le)
            have qs := box_sto w9 en rv pe he9.one
            clear ho9 hn9 he9 hm9 HHE
            go_upto_region 17 with (fail)
            generalize hwa : storeMid _ _ _ = w10
            have hbx := box_end hwa
            obtain ⟨ge, hge⟩ : ∃ g, w9.heap.size = g := ⟨_, rfl⟩
            have HS10 := Lib.hid (HS9.out.below hbx.1)
            have HE10 := Lib.hid (HE9.out.below hbx.1)
            have HK10 := Lib.hid hbx.2
            rw [hge] at HK10
            rw [hge]
            clear qs hwa hbx hge HS9 HE9
            have hby := HS10.out.box
            rw [HPV.out, HFV.out, HMO.out] at hby
            have y0 : w10.cell? ⟨gb, 0, none⟩ = some (.int .i64 (most : Int)) := hby.cell 0
            have y1 : w10.cell? ⟨gb, 1, none⟩ = some (.slice Ap pn cp) := hby.cell 1
            have y2 : w10.cell? ⟨gb, 2, none⟩ = some (.slice Af fn cf) := hby.cell 2
            have qa : AggOk 41 w10 (.pointer (some ⟨ge, 0, none⟩)) := aggOk_mk (blk_rangeN HK10.out) (entCells_len _ _ _)
            have ld := loadN_eq (n := 41) (blk_rangeN HK10.out) (entCells_len _ _ _)
            clear hby
            cases hf : m.full with
            | true =>
              have HAR : Hid (Calls Try.prog 29 #[.agg #[.int .i64 (most : Int), .slice Ap pn cp, .slice Af fn cf], entV en rv pe] w10 fun e w' => e = .returned (.tuple #[.agg #[.int .i64 (most : Int), .slice Ap pn cp, .slice Af fn cf], .agg #[.int .i64 0, .int .i64 0], .bool false]) ∧ Below w10.heap.size w10 w') := by
                have h1 := raddr_full w10 B pv fv m L _ HS10.out.ref HS10.out.le HS10.out.wf (by omega) en rv pe HE10.out hf
                unfold AddRFull at h1
                rw [HSV.out] at h1
                exact h1
              have HFU := Lib.hid hf
              clear hf
              go_wp2_with fail
              refine HAR.out.mono ?_
              rintro e w11 ⟨rfl, hb11⟩
              have HB11 := Lib.hid hb11
              have hz11 := hb11.size
              clear hb11 y0 y1 y2 qa ld HAR
              go_upto_region 18 with (fail)
              generalize hwa : World.alloc (World.alloc _ _) _ = w12
              have hb12 : Below w11.heap.size w11 w12 := by rw [← hwa]; exact ((Below.refl _ _).alloc (Nat.le_refl _) _).alloc (by simp) _
              have hx12 : Blk w12 w11.heap.size 28 #[.int .i64 (most : Int), .slice Ap pn cp, .slice Af fn cf] := by rw [← hwa]; exact (Blk.new _ _ _).alloc _
              have hh12 : Blk w12 (w11.heap.size + 1) 43 #[.int .i64 0, .int .i64 0] := by rw [← hwa]; exact blk_at (by simp)
              have HB12 := Lib.hid (HB11.out.trans (hb12.mono hz11))
              have HX12 := Lib.hid hx12
              have HH12 := Lib.hid hh12
              have HS12 := Lib.hid (HS10.out.below HB12.out)
              have HE12 := Lib.hid (HE10.out.below HB12.out)
              have HK12 := Lib.hid (HK10.out.below HB12.out HK10.out.lt)
              skip
              have hz12 := hb12.size
              have hgn : w11.heap.size ≠ gb := by have := HS10.out.box.lt; omega
              have qa : AggOk 41 w12 (.pointer (some ⟨ge, 0, none⟩)) := aggOk_mk (blk_rangeN HK12.out) (entCells_len _ _ _)
              have ld := loadN_eq (n := 41) (blk_rangeN HK12.out) (entCells_len _ _ _)
              obtain ⟨g14, hg14⟩ : ∃ g, w11.heap.size = g := ⟨_, rfl⟩
              rw [hg14] at HX12 HH12 hgn ⊢
              clear hwa hb12 hx12 hh12 hg14
              have HAP : Hid (Calls Try.prog 14 #[.pointer (some ⟨C, 0, none⟩), entV en rv pe] w12 fun ed w' => ed = .returned (.tuple #[.agg #[.int .i64 0, .int .i64 0], .bool false]) ∧ Below w12.heap.size w12 w') :=
                radd_full w12 B C m _ HS12.out.slb HS12.out.le HS12.out.wf (by omega) en rv pe HE12.out.rd HM.out HFU.out
              go_wp2_with fail
              refine HAP.out.mono ?_
              rintro e w13 ⟨rfl, hb13⟩
              have ho13 : Only (SFoot w12 B) w12 w13 := Only.of_below _ hb13
              have hs13 := HS12.out.slb.below hb13
              have HO13 := Lib.hid ho13
              have HS13 := Lib.hid hs13
              have hX13 := HX12.out.only ho13 (SFoot.not HX12.out (by decide))
              have hH13 := HH12.out.only ho13 (SFoot.not HH12.out (by decide))
              have hB13 := HS12.out.box.only ho13 (SFoot.not HS12.out.box (by decide))
              have HX13 := Lib.hid hX13
              have HH13 := Lib.hid hH13
              have HBX13 := Lib.hid hB13
              clear ho13 hs13 hX13 hH13 hB13 qa ld HAP
              go_upto_region 19 with (fail)
              generalize hwa : World.alloc _ _ = w14
              obtain ⟨g17, hg17⟩ : ∃ g, w13.heap.size = g := ⟨_, rfl⟩
              have hb14 : Below w13.heap.size w13 w14 := by rw [← hwa]; exact (Below.refl _ _).alloc (Nat.le_refl _) _
              have hh14 : Blk w14 g17 43 #[.int .i64 0, .int .i64 0] := by rw [← hwa, ← hg17]; exact heap_alloc_new _ _
              have HB14 := Lib.hid hb14
              have hX14 := HX13.out.below hb14 HX13.out.lt
              have hH14 := HH13.out.below hb14 HH13.out.lt
              have hB14 := HBX13.out.below hb14 HBX13.out.lt
              rw [HPV.out, HFV.out, HMO.out] at hB14
              have k0 : w14.cell? ⟨g17, 0, none⟩ = some (.int .i64 0) := hh14.cell 0
              have k1 : w14.cell? ⟨g17, 1, none⟩ = some (.int .i64 0) := hh14.cell 1
              have l0 : w14.cell? ⟨g14 + 1, 0, none⟩ = some (.int .i64 0) := hH14.cell 0
              have l1 : w14.cell? ⟨g14 + 1, 1, none⟩ = some (.int .i64 0) := hH14.cell 1
              have z0 : w14.cell? ⟨g14, 0, none⟩ = some (.int .i64 (most : Int)) := hX14.cell 0
              have z1 : w14.cell? ⟨g14, 1, none⟩ = some (.slice Ap pn cp) := hX14.cell 1
              have z2 : w14.cell? ⟨g14, 2, none⟩ = some (.slice Af fn cf) := hX14.cell 2
              have q0 := hB14.cell 0
              have q1 := hB14.cell 1
              have q2 := hB14.cell 2
              have f0 := hB14.frozen 0
              have f1 := hB14.frozen 1
              have f2 := hB14.frozen 2
              simp at q0 q1 q2
              have HBQ := Lib.hid hB14
              rw [hg17]
              clear hwa hg17 hb14 hh14 hX14 hH14 hB14 HX13 HH13 HBX13
              go_wp2_with fail
              go_roundw
              case rel =>
                have hfin := HS10.out.turn HB12.out HS12.out.ref HO13.out HS13.out HB14.out HS10.out.wf (sonly3 w14 gb (.int .i64 (most : Int)) (.slice Ap pn cp) (.slice Af fn cf)) (by rw [HPV.out, HFV.out, HMO.out]; exact sbox3 HBQ.out)
                exact ⟨_, _, _, _, _, hfin, by omega⟩
              case measure =>
                have hfin := HS10.out.turn HB12.out HS12.out.ref HO13.out HS13.out HB14.out HS10.out.wf (sonly3 w14 gb (.int .i64 (most : Int)) (.slice Ap pn cp) (.slice Af fn cf)) (by rw [HPV.out, HFV.out, HMO.out]; exact sbox3 HBQ.out)
                show n - numC _ D < n - numC _ D
                rw [hfin.num.numC, hNC.out]
                omega
            | false =>
              have HAR : Hid (Calls Try.prog 29 #[.agg #[.int .i64 (most : Int), .slice Ap pn cp, .slice Af fn cf], entV en rv pe] w10 (AddRPost w10 B m en)) := by
                have h1 := raddr_ok w10 B pv fv m L _ HS10.out.ref HS10.out.le HS10.out.wf (by omega) en rv pe HE10.out hf
                rw [HSV.out] at h1
                exact h1
              have HFU := Lib.hid hf
              clear hf
              go_wp2_with fail
              refine HAR.out.mono ?_
              rintro e w11 ⟨pv9, fv9, L9, rfl, hb11, hr9⟩
              obtain ⟨A9, c9, hpv9⟩ := own_form hr9.row
              obtain ⟨B9, d9, hfv9⟩ := own_form hr9.fre
              have HSV9 : Hid (storeV (m.add en) pv9 fv9 = .agg #[.int .i64 (most : Int), .slice A9 L9.length c9, .slice B9 (m.add en).fr.length d9]) := Lib.hid (by rw [hpv9, hfv9, ← HMO.out]; rfl)
              have HPV9 := Lib.hid hpv9
              have HFV9 := Lib.hid hfv9
              have HR9 := Lib.hid hr9
              obtain ⟨l9, hl9⟩ : ∃ x, L9.length = x := ⟨_, rfl⟩
              obtain ⟨m9, hm9⟩ : ∃ x, (m.add en).fr.length = x := ⟨_, rfl⟩
              rw [hl9, hm9] at HSV9
              have HL9 := Lib.hid hl9
              have HM9 := Lib.hid hm9
              obtain ⟨sv, hsv⟩ : ∃ s : Int, (m.slot : Int) = s := ⟨_, rfl⟩
              obtain ⟨uv, huv⟩ : ∃ s : Int, (m.use : Int) = s := ⟨_, rfl⟩
              rw [HSV9.out, hsv, huv]
              have HVV := Lib.hid (And.intro hsv huv)
              clear hr9 hpv9 hfv9 hl9 hm9 hsv huv
              have HB11 := Lib.hid hb11
              have hz11 := hb11.size
              clear hb11 y0 y1 y2 qa ld HAR
              go_upto_region 18 with (fail)
              generalize hwa : World.alloc (World.alloc _ _) _ = w12
              have hb12 : Below w11.heap.size w11 w12 := by rw [← hwa]; exact ((Below.refl _ _).alloc (Nat.le_refl _) _).alloc (by simp) _
              have hx12 : Blk w12 w11.heap.size 28 #[.int .i64 (most : Int), .slice A9 l9 c9, .slice B9 m9 d9] := by rw [← hwa]; exact (Blk.new _ _ _).alloc _
              have hh12 : Blk w12 (w11.heap.size + 1) 43 #[.int .i64 sv, .int .i64 uv] := by rw [← hwa]; exact blk_at (by simp)
              have HB12 := Lib.hid (HB11.out.trans (hb12.mono hz11))
              have HX12 := Lib.hid hx12
              have HH12 := Lib.hid hh12
              have HS12 := Lib.hid (HS10.out.below HB12.out)
              have HE12 := Lib.hid (HE10.out.below HB12.out)
              have HK12 := Lib.hid (HK10.out.below HB12.out HK10.out.lt)
              have HR12 := Lib.hid (HR9.out.below hb12)
              have hz12 := hb12.size
              have hgn : w11.heap.size ≠ gb := by have := HS10.out.box.lt; omega
              have qa : AggOk 41 w12 (.pointer (some ⟨ge, 0, none⟩)) := aggOk_mk (blk_rangeN HK12.out) (entCells_len _ _ _)
              have ld := loadN_eq (n := 41) (blk_rangeN HK12.out) (entCells_len _ _ _)
              obtain ⟨g14, hg14⟩ : ∃ g, w11.heap.size = g := ⟨_, rfl⟩
              rw [hg14] at HX12 HH12 hgn ⊢
              clear hwa hb12 hx12 hh12 hg14
              have HAP : Hid (Calls Try.prog 14 #[.pointer (some ⟨C, 0, none⟩), entV en rv pe] w12 fun ed w' => ed = .returned (.tuple #[.agg #[.int .i64 sv, .int .i64 uv], .bool true]) ∧ Only (SFoot w12 B) w12 w' ∧ SlR w' B C (m.add en)) := by
                have h1 := radd_ok w12 B C m _ HS12.out.slb HS12.out.le HS12.out.wf (by omega) en rv pe HE12.out.rd HM.out HFU.out
                rw [HVV.out.1, HVV.out.2] at h1
                exact h1
              go_wp2_with fail
              refine HAP.out.mono ?_
              rintro e w13 ⟨rfl, ho13, hs13⟩
              have HO13 := Lib.hid ho13
              have HS13 := Lib.hid hs13
              have hX13 := HX12.out.only ho13 (SFoot.not HX12.out (by decide))
              have hH13 := HH12.out.only ho13 (SFoot.not HH12.out (by decide))
              have hB13 := HS12.out.box.only ho13 (SFoot.not HS12.out.box (by decide))
              have HX13 := Lib.hid hX13
              have HH13 := Lib.hid hH13
              have HBX13 := Lib.hid hB13
              clear ho13 hs13 hX13 hH13 hB13 qa ld HAP
              go_upto_region 19 with (fail)
              generalize hwa : World.alloc _ _ = w14
              obtain ⟨g17, hg17⟩ : ∃ g, w13.heap.size = g := ⟨_, rfl⟩
              have hb14 : Below w13.heap.size w13 w14 := by rw [← hwa]; exact (Below.refl _ _).alloc (Nat.le_refl _) _
              have hh14 : Blk w14 g17 43 #[.int .i64 sv, .int .i64 uv] := by rw [← hwa, ← hg17]; exact heap_alloc_new _ _
              have HB14 := Lib.hid hb14
              have hX14 := HX13.out.below hb14 HX13.out.lt
              have hH14 := HH13.out.below hb14 HH13.out.lt
              have hB14 := HBX13.out.below hb14 HBX13.out.lt
              rw [HPV.out, HFV.out, HMO.out] at hB14
              have k0 : w14.cell? ⟨g17, 0, none⟩ = some (.int .i64 sv) := hh14.cell 0
              have k1 : w14.cell? ⟨g17, 1, none⟩ = some (.int .i64 uv) := hh14.cell 1
              have l0 : w14.cell? ⟨g14 + 1, 0, none⟩ = some (.int .i64 sv) := hH14.cell 0
              have l1 : w14.cell? ⟨g14 + 1, 1, none⟩ = some (.int .i64 uv) := hH14.cell 1
              have z0 : w14.cell? ⟨g14, 0, none⟩ = some (.int .i64 (most : Int)) := hX14.cell 0
              have z1 : w14.cell? ⟨g14, 1, none⟩ = some (.slice A9 l9 c9) := hX14.cell 1
              have z2 : w14.cell? ⟨g14, 2, none⟩ = some (.slice B9 m9 d9) := hX14.cell 2
              have q0 := hB14.cell 0
              have q1 := hB14.cell 1
              have q2 := hB14.cell 2
              have f0 := hB14.frozen 0
              have f1 := hB14.frozen 1
              have f2 := hB14.frozen 2
              simp at q0 q1 q2
              have HBQ := Lib.hid hB14
              rw [hg17]
              clear hwa hg17 hb14 hh14 hX14 hH14 hB14 HX13 HH13 HBX13
              go_wp2_with fail
              go_roundw
              case rel =>
                have hfin := HS10.out.turn HB12.out HR12.out HO13.out HS13.out HB14.out ((HSE.out.wf.add HFU.out HM.out).more hN3a) (sonly3 w14 gb (.int .i64 (most : Int)) (.slice A9 l9 c9) (.slice B9 m9 d9)) (by rw [HPV9.out, HFV9.out, HL9.out, HM9.out]; show Blk _ _ _ #[.int .i64 (m.most : Int), _, _]; rw [HMO.out]; exact sbox3 HBQ.out)
                exact ⟨_, _, _, _, _, hfin, by omega⟩
              case measure =>
                have hfin := HS10.out.turn HB12.out HR12.out HO13.out HS13.out HB14.out ((HSE.out.wf.add HFU.out HM.out).more hN3a) (sonly3 w14 gb (.int .i64 (most : Int)) (.slice A9 l9 c9) (.slice B9 m9 d9)) (by rw [HPV9.out, HFV9.out, HL9.out, HM9.out]; show Blk _ _ _ #[.int .i64 (m.most : Int), _, _]; rw [HMO.out]; exact sbox3 HBQ.out)
                show n - numC _ D < n - numC _ D
                rw [hfin.num.numC, hNC.out]
                omega
        | true =>
          have h0 : 0 < ct := HC0.out rfl
          go_wp2_with fail
          refine (next_any wc B D n N2 ct HSC.out.num (by omega) (by omega) (by omega)).mono ?_
          rintro e w7 ⟨j, hj, rfl, ho7, hsz7, hn7⟩
          obtain ⟨csn, hkn⟩ := HSC.out.num.blk
          have HS7 := Lib.hid (HSC.out.next ho7 hn7 (Nat.le_succ _))
          have HH7 := Lib.hid (HHC.out.only ho7 (Blk.ne_ HHC.out hkn (by decide)))
          have ho7' := owns_only HOC.out ho7 (fun g h1 h2 => own_blk_ne HOC.out hkn (by decide) (h2 ▸ h1))
          have hll : (hdlsP m.pl).length = ct := by rw [hdlsP_len]; exact HCT.out
          obtain ⟨x, hx⟩ : ∃ x, (hdlsP m.pl)[j]? = some x := ⟨_, List.getElem?_eq_getElem (by omega)⟩
          rw [← hll] at ho7'
          obtain ⟨gh, hAh, k0, k1, hgl⟩ := hdls_cell ho7' hx
          subst hAh
          have t5 : (j : Int) < (ct : Int) := by omega
          have t6 : (0 : Int) ≤ j := by omega
          have q0 := HH7.out.cell 0
          have q1 := HH7.out.cell 1
          have f0 := HH7.out.frozen 0
          have f1 := HH7.out.frozen 1
          simp at q0 q1
          obtain ⟨s, hs⟩ : ∃ s : Int, (x.1 : Int) = s := ⟨_, rfl⟩
          obtain ⟨u, hu⟩ : ∃ s : Int, (x.2 : Int) = s := ⟨_, rfl⟩
          rw [hs] at k0
          rw [hu] at k1
          clear ho7 hn7 hsz7 hkn ho7' hx hll hs hu
          go_upto_region 11 with (fail)
          generalize hwa : World.setCell _ _ _ = wd
          have HSD := Lib.hid (HS7.out.hand HH7.out hhB (W' := wd) (by rw [← hwa]; exact ((Only.refl (fun k => k = hb) w7).setCell_ (p := ⟨hb, 0, none⟩) (.inl rfl) _).setCell_ (p := ⟨hb, 1, none⟩) (.inl rfl) _))
          have HHD' : Hid (Blk wd hb 43 #[.int .i64 s, .int .i64 u]) := by
            show Blk _ _ _ _
            rw [← hwa]; exact (HH7.out.set_ 0 (.int .i64 s)).set_ 1 (.int .i64 u)
          clear hwa q0 q1 f0 f1 k0 k1 HS7 HH7 HSC HHC HOC
          have hNb : (N2 + 1) ≤ N + 5 ∧ N + 1 ≤ (N2 + 1) := by omega
          go_wp2_with fail
          refine (next_any wd B D n (N2 + 1) 5 HSD.out.num (by omega) (by omega) (by omega)).mono ?_
          rintro e w8 ⟨q5, hq5, rfl, ho8, hsz8, hn8⟩
          obtain ⟨csn, hkn⟩ := HSD.out.num.blk
          have HSE := Lib.hid (HSD.out.next ho8 hn8 (Nat.le_succ _))
          have HHE := Lib.hid (HHD'.out.only ho8 (Blk.ne_ HHD'.out hkn (by decide)))
          clear ho8 hn8 hsz8 hkn
          rcases Nat.lt_or_ge q5 2 with hql | hqg
          · have t4 : (q5 : Int) < 2 := by omega
            have hbx := HSE.out.box
            rw [HPV.out, HFV.out, HMO.out] at hbx
            have y0 : w8.cell? ⟨gb, 0, none⟩ = some (.int .i64 (most : Int)) := hbx.cell 0
            have y1 : w8.cell? ⟨gb, 1, none⟩ = some (.slice Ap pn cp) := hbx.cell 1
            have y2 : w8.cell? ⟨gb, 2, none⟩ = some (.slice Af fn cf) := hbx.cell 2
            have k0 : w8.cell? ⟨hb, 0, none⟩ = some (.int .i64 s) := HHE.out.cell 0
            have k1 : w8.cell? ⟨hb, 1, none⟩ = some (.int .i64 u) := HHE.out.cell 1
            have hlb := hbx.lt
            have hlh := HHE.out.lt
            clear hbx
            cases hok : m.ok s u with
            | false =>
              have HRM : Hid (Calls Try.prog 28 #[.agg #[.int .i64 (most : Int), .slice Ap pn cp, .slice Af fn cf], .agg #[.int .i64 s, .int .i64 u]] w8 fun e w' => e = .returned (.tuple #[.agg #[.int .i64 (most : Int), .slice Ap pn cp, .slice Af fn cf], .bool false]) ∧ Below w8.heap.size w8 w') := by
                have h1 := rremr_no w8 B pv fv m L _ HSE.out.ref HSE.out.le HSE.out.wf (by omega) s u hok
                unfold RemRNo at h1
                rw [HSV.out] at h1
                exact h1
              have HOK := Lib.hid hok
              clear hok
              go_wp2_with fail
              refine HRM.out.mono ?_
              rintro e w9 ⟨rfl, hb9⟩
              clear HRM
              have HB9 := Lib.hid hb9
              have hz9 := hb9.size
              clear hb9 y0 y1 y2 k0 k1
              go_upto_region 13 with (fail)
              generalize hwa : World.alloc _ _ = w10
              obtain ⟨g2, hg2⟩ : ∃ g, w9.heap.size = g := ⟨_, rfl⟩
              have hb10 : Below w9.heap.size w9 w10 := by rw [← hwa]; exact (Below.refl _ _).alloc (Nat.le_refl _) _
              have hx10 : Blk w10 g2 28 #[.int .i64 (most : Int), .slice Ap pn cp, .slice Af fn cf] := by rw [← hwa, ← hg2]; exact heap_alloc_new _ _
              have HB10 := Lib.hid (HB9.out.trans (hb10.mono hz9))
              have HX10 := Lib.hid hx10
              have HS10 := Lib.hid (HSE.out.below HB10.out)
              have HH10 := Lib.hid (HHE.out.below HB10.out HHE.out.lt)
              have hg2n : g2 ≠ gb := by have := HSE.out.box.lt; omega
              skip
              rw [hg2]
              have k0 : w10.cell? ⟨hb, 0, none⟩ = some (.int .i64 s) := HH10.out.cell 0
              have k1 : w10.cell? ⟨hb, 1, none⟩ = some (.int .i64 u) := HH10.out.cell 1
              clear hwa hb10 hx10 hg2
              have HRP : Hid (Calls Try.prog 18 #[.pointer (some ⟨C, 0, none⟩), .agg #[.int .i64 s, .int .i64 u]] w10 fun e w' => e = .returned (.bool false) ∧ Below w10.heap.size w10 w') := rrem_no w10 B C m _ HS10.out.slb HS10.out.wf (by omega) s u HOK.out
              go_wp2_with fail
              refine HRP.out.mono ?_
              rintro e w11 ⟨rfl, hb11⟩
              have ho11 : Only (SFoot w10 B) w10 w11 := Only.of_below _ hb11
              have hs11 := HS10.out.slb.below hb11
              have HX11 := HX10.out.only ho11 (SFoot.not HX10.out (by decide))
              have HBX11 := HS10.out.box.only ho11 (SFoot.not HS10.out.box (by decide))
              have HO11 := Lib.hid ho11
              have HS11 := Lib.hid hs11
              have z0 : w11.cell? ⟨g2, 0, none⟩ = some (.int .i64 (most : Int)) := HX11.cell 0
              have z1 : w11.cell? ⟨g2, 1, none⟩ = some (.slice Ap pn cp) := HX11.cell 1
              have z2 : w11.cell? ⟨g2, 2, none⟩ = some (.slice Af fn cf) := HX11.cell 2
              rw [HPV.out, HFV.out, HMO.out] at HBX11
              have q0 := HBX11.cell 0
              have q1 := HBX11.cell 1
              have q2 := HBX11.cell 2
              have f0 := HBX11.frozen 0
              have f1 := HBX11.frozen 1
              have f2 := HBX11.frozen 2
              simp at q0 q1 q2
              have HBQ := Lib.hid HBX11
              clear ho11 hs11 HX11 HBX11 HRP k0 k1
              go_wp2_with fail
              go_roundw
              case rel =>
                have hwf := HSE.out.wf
                have hfin := HSE.out.turn HB10.out HS10.out.ref HO11.out HS11.out (Below.refl _ _) hwf (sonly3 w11 gb (.int .i64 (most : Int)) (.slice Ap pn cp) (.slice Af fn cf)) (by rw [HPV.out, HFV.out, HMO.out]; exact sbox3 HBQ.out)
                exact ⟨_, _, _, _, _, hfin, by omega⟩
              case measure =>
                have hwf := HSE.out.wf
                have hfin := HSE.out.turn HB10.out HS10.out.ref HO11.out HS11.out (Below.refl _ _) hwf (sonly3 w11 gb (.int .i64 (most : Int)) (.slice Ap pn cp) (.slice Af fn cf)) (by rw [HPV.out, HFV.out, HMO.out]; exact sbox3 HBQ.out)
                show n - numC _ D < n - numC _ D
                rw [hfin.num.numC, hNC.out]
                omega
            | true =>
              obtain ⟨i, p, hsi, hp, hpf, hpu⟩ := RSt.ok_some hok
              have HRM : Hid (Calls Try.prog 28 #[.agg #[.int .i64 (most : Int), .slice Ap pn cp, .slice Af fn cf], .agg #[.int .i64 s, .int .i64 u]] w8 (RemRPost w8 B m i)) := by
                have h1 := rremr_ok w8 B pv fv m L _ HSE.out.ref HSE.out.le HSE.out.wf (by omega) i u p hp hpf hpu
                rw [HSV.out, ← hsi] at h1
                exact h1
              have HP := Lib.hid (And.intro hp (And.intro hpf hpu))
              have HSI : Hid (s = (i : Int)) := hsi
              clear hp hpf hpu hsi hok
              go_wp2_with fail
              refine HRM.out.mono ?_
              rintro e w9 ⟨pv9, fv9, L9, rfl, hb9, hr9⟩
              obtain ⟨A9, c9, hpv9⟩ := own_form hr9.row
              obtain ⟨B9, d9, hfv9⟩ := own_form hr9.fre
              have HSV9 : Hid (storeV (m.rem i) pv9 fv9 = .agg #[.int .i64 (most : Int), .slice A9 L9.length c9, .slice B9 (m.rem i).fr.length d9]) := Lib.hid (by rw [hpv9, hfv9, ← HMO.out]; rfl)
              have HPV9 := Lib.hid hpv9
              have HFV9 := Lib.hid hfv9
              have HR9 := Lib.hid hr9
              obtain ⟨l9, hl9⟩ : ∃ x, L9.length = x := ⟨_, rfl⟩
              obtain ⟨m9, hm9⟩ : ∃ x, (m.rem i).fr.length = x := ⟨_, rfl⟩
              rw [hl9, hm9] at HSV9
              have HL9 := Lib.hid hl9
              have HM9 := Lib.hid hm9
              rw [HSV9.out]
              clear hr9 hpv9 hfv9 HRM hl9 hm9
              have HB9 := Lib.hid hb9
              have hz9 := hb9.size
              clear hb9 y0 y1 y2 k0 k1
              go_upto_region 13 with (fail)
              generalize hwa : World.alloc _ _ = w10
              obtain ⟨g2, hg2⟩ : ∃ g, w9.heap.size = g := ⟨_, rfl⟩
              have hb10 : Below w9.heap.size w9 w10 := by rw [← hwa]; exact (Below.refl _ _).alloc (Nat.le_refl _) _
              have hx10 : Blk w10 g2 28 #[.int .i64 (most : Int), .slice A9 l9 c9, .slice B9 m9 d9] := by rw [← hwa, ← hg2]; exact heap_alloc_new _ _
              have HB10 := Lib.hid (HB9.out.trans (hb10.mono hz9))
              have HX10 := Lib.hid hx10
              have HS10 := Lib.hid (HSE.out.below HB10.out)
              have HH10 := Lib.hid (HHE.out.below HB10.out HHE.out.lt)
              have hg2n : g2 ≠ gb := by have := HSE.out.box.lt; omega
              have HR10 := Lib.hid (HR9.out.below hb10)
              rw [hg2]
              have k0 : w10.cell? ⟨hb, 0, none⟩ = some (.int .i64 s) := HH10.out.cell 0
              have k1 : w10.cell? ⟨hb, 1, none⟩ = some (.int .i64 u) := HH10.out.cell 1
              clear hwa hb10 hx10 hg2
              have HRP : Hid (Calls Try.prog 18 #[.pointer (some ⟨C, 0, none⟩), .agg #[.int .i64 s, .int .i64 u]] w10 fun e w' => e = .returned (.bool true) ∧ Only (SFoot w10 B) w10 w' ∧ SlR w' B C (m.rem i)) := by
                have h1 := rrem_ok w10 B C m _ HS10.out.slb HS10.out.le HS10.out.wf (by omega) i u p HP.out.1 HP.out.2.1 HP.out.2.2
                rw [← HSI.out] at h1
                exact h1
              go_wp2_with fail
              refine HRP.out.mono ?_
              rintro e w11 ⟨rfl, ho11, hs11⟩
              have HX11 := HX10.out.only ho11 (SFoot.not HX10.out (by decide))
              have HBX11 := HS10.out.box.only ho11 (SFoot.not HS10.out.box (by decide))
              have HO11 := Lib.hid ho11
              have HS11 := Lib.hid hs11
              have z0 : w11.cell? ⟨g2, 0, none⟩ = some (.int .i64 (most : Int)) := HX11.cell 0
              have z1 : w11.cell? ⟨g2, 1, none⟩ = some (.slice A9 l9 c9) := HX11.cell 1
              have z2 : w11.cell? ⟨g2, 2, none⟩ = some (.slice B9 m9 d9) := HX11.cell 2
              rw [HPV.out, HFV.out, HMO.out] at HBX11
              have q0 := HBX11.cell 0
              have q1 := HBX11.cell 1
              have q2 := HBX11.cell 2
              have f0 := HBX11.frozen 0
              have f1 := HBX11.frozen 1
              have f2 := HBX11.frozen 2
              simp at q0 q1 q2
              have HBQ := Lib.hid HBX11
              clear ho11 hs11 HX11 HBX11 HRP k0 k1
              go_wp2_with fail
              go_roundw
              case rel =>
                have hwf := HSE.out.wf.rem HP.out.1 HP.out.2.1
                have hfin := HSE.out.turn HB10.out HR10.out HO11.out HS11.out (Below.refl _ _) hwf (sonly3 w11 gb (.int .i64 (most : Int)) (.slice A9 l9 c9) (.slice B9 m9 d9)) (by rw [HPV9.out, HFV9.out, HL9.out, HM9.out]; show Blk _ _ _ #[.int .i64 (m.most : Int), _, _]; rw [HMO.out]; exact sbox3 HBQ.out)
                exact ⟨_, _, _, _, _, hfin, by omega⟩
              case measure =>
                have hwf := HSE.out.wf.rem HP.out.1 HP.out.2.1
                have hfin := HSE.out.turn HB10.out HR10.out HO11.out HS11.out (Below.refl _ _) hwf (sonly3 w11 gb (.int .i64 (most : Int)) (.slice A9 l9 c9) (.slice B9 m9 d9)) (by rw [HPV9.out, HFV9.out, HL9.out, HM9.out]; show Blk _ _ _ #[.int .i64 (m.most : Int), _, _]; rw [HMO.out]; exact sbox3 HBQ.out)
                show n - numC _ D < n - numC _ D
                rw [hfin.num.numC, hNC.out]
                omega
          · have t4 : ¬ (q5 : Int) < 2 := by omega
            go_wp2_with fail
            refine (mkEntry_any w8 B D n ((N2 + 1) + 1) HSE.out.num HSE.out.le (by omega)).mono ?_
            rintro e w9 ⟨en, rv, pe, N3, rfl, ho9, hn9, hN3a, hN3b, he9, hm9⟩
            have HS9 := Lib.hid (HSE.out.next ho9 hn9 (by omega))
            have HM := Lib.hid hm9.small
            have HE9 := Lib.hid (he9.less HSE.out.le)
            have qs := box_sto w9 en rv pe he9.one
            clear ho9 hn9 he9 hm9 HHE
            go_upto_region 17 with (fail)
            generalize hwa : storeMid _ _ _ = w10
            have hbx := box_end hwa
            obtain ⟨ge, hge⟩ : ∃ g, w9.heap.size = g := ⟨_, rfl⟩
            have HS10 := Lib.hid (HS9.out.below hbx.1)
            have HE10 := Lib.hid (HE9.out.below hbx.1)
            have HK10 := Lib.hid hbx.2
            rw [hge] at HK10
            rw [hge]
            clear qs hwa hbx hge HS9 HE9
            have hby := HS10.out.box
            rw [HPV.out, HFV.out, HMO.out] at hby
            have y0 : w10.cell? ⟨gb, 0, none⟩ = some (.int .i64 (most : Int)) := hby.cell 0
            have y1 : w10.cell? ⟨gb, 1, none⟩ = some (.slice Ap pn cp) := hby.cell 1
            have y2 : w10.cell? ⟨gb, 2, none⟩ = some (.slice Af fn cf) := hby.cell 2
            have qa : AggOk 41 w10 (.pointer (some ⟨ge, 0, none⟩)) := aggOk_mk (blk_rangeN HK10.out) (entCells_len _ _ _)
            have ld := loadN_eq (n := 41) (blk_rangeN HK10.out) (entCells_len _ _ _)
            clear hby
            cases hf : m.full with
            | true =>
              have HAR : Hid (Calls Try.prog 29 #[.agg #[.int .i64 (most : Int), .slice Ap pn cp, .slice Af fn cf], entV en rv pe] w10 fun e w' => e = .returned (.tuple #[.agg #[.int .i64 (most : Int), .slice Ap pn cp, .slice Af fn cf], .agg #[.int .i64 0, .int .i64 0], .bool false]) ∧ Below w10.heap.size w10 w') := by
                have h1 := raddr_full w10 B pv fv m L _ HS10.out.ref HS10.out.le HS10.out.wf (by omega) en rv pe HE10.out hf
                unfold AddRFull at h1
                rw [HSV.out] at h1
                exact h1
              have HFU := Lib.hid hf
              clear hf
              go_wp2_with fail
              refine HAR.out.mono ?_
              rintro e w11 ⟨rfl, hb11⟩
              have HB11 := Lib.hid hb11
              have hz11 := hb11.size
              clear hb11 y0 y1 y2 qa ld HAR
              go_upto_region 18 with (fail)
              generalize hwa : World.alloc (World.alloc _ _) _ = w12
              have hb12 : Below w11.heap.size w11 w12 := by rw [← hwa]; exact ((Below.refl _ _).alloc (Nat.le_refl _) _).alloc (by simp) _
              have hx12 : Blk w12 w11.heap.size 28 #[.int .i64 (most : Int), .slice Ap pn cp, .slice Af fn cf] := by rw [← hwa]; exact (Blk.new _ _ _).alloc _
              have hh12 : Blk w12 (w11.heap.size + 1) 43 #[.int .i64 0, .int .i64 0] := by rw [← hwa]; exact blk_at (by simp)
              have HB12 := Lib.hid (HB11.out.trans (hb12.mono hz11))
              have HX12 := Lib.hid hx12
              have HH12 := Lib.hid hh12
              have HS12 := Lib.hid (HS10.out.below HB12.out)
              have HE12 := Lib.hid (HE10.out.below HB12.out)
              have HK12 := Lib.hid (HK10.out.below HB12.out HK10.out.lt)
              skip
              have hz12 := hb12.size
              have hgn : w11.heap.size ≠ gb := by have := HS10.out.box.lt; omega
              have qa : AggOk 41 w12 (.pointer (some ⟨ge, 0, none⟩)) := aggOk_mk (blk_rangeN HK12.out) (entCells_len _ _ _)
              have ld := loadN_eq (n := 41) (blk_rangeN HK12.out) (entCells_len _ _ _)
              obtain ⟨g14, hg14⟩ : ∃ g, w11.heap.size = g := ⟨_, rfl⟩
              rw [hg14] at HX12 HH12 hgn ⊢
              clear hwa hb12 hx12 hh12 hg14
              have HAP : Hid (Calls Try.prog 14 #[.pointer (some ⟨C, 0, none⟩), entV en rv pe] w12 fun ed w' => ed = .returned (.tuple #[.agg #[.int .i64 0, .int .i64 0], .bool false]) ∧ Below w12.heap.size w12 w') :=
                radd_full w12 B C m _ HS12.out.slb HS12.out.le HS12.out.wf (by omega) en rv pe HE12.out.rd HM.out HFU.out
              go_wp2_with fail
              refine HAP.out.mono ?_
              rintro e w13 ⟨rfl, hb13⟩
              have ho13 : Only (SFoot w12 B) w12 w13 := Only.of_below _ hb13
              have hs13 := HS12.out.slb.below hb13
              have HO13 := Lib.hid ho13
              have HS13 := Lib.hid hs13
              have hX13 := HX12.out.only ho13 (SFoot.not HX12.out (by decide))
              have hH13 := HH12.out.only ho13 (SFoot.not HH12.out (by decide))
              have hB13 := HS12.out.box.only ho13 (SFoot.not HS12.out.box (by decide))
              have HX13 := Lib.hid hX13
              have HH13 := Lib.hid hH13
              have HBX13 := Lib.hid hB13
              clear ho13 hs13 hX13 hH13 hB13 qa ld HAP
              go_upto_region 19 with (fail)
              generalize hwa : World.alloc _ _ = w14
              obtain ⟨g17, hg17⟩ : ∃ g, w13.heap.size = g := ⟨_, rfl⟩
              have hb14 : Below w13.heap.size w13 w14 := by rw [← hwa]; exact (Below.refl _ _).alloc (Nat.le_refl _) _
              have hh14 : Blk w14 g17 43 #[.int .i64 0, .int .i64 0] := by rw [← hwa, ← hg17]; exact heap_alloc_new _ _
              have HB14 := Lib.hid hb14
              have hX14 := HX13.out.below hb14 HX13.out.lt
              have hH14 := HH13.out.below hb14 HH13.out.lt
              have hB14 := HBX13.out.below hb14 HBX13.out.lt
              rw [HPV.out, HFV.out, HMO.out] at hB14
              have k0 : w14.cell? ⟨g17, 0, none⟩ = some (.int .i64 0) := hh14.cell 0
              have k1 : w14.cell? ⟨g17, 1, none⟩ = some (.int .i64 0) := hh14.cell 1
              have l0 : w14.cell? ⟨g14 + 1, 0, none⟩ = some (.int .i64 0) := hH14.cell 0
              have l1 : w14.cell? ⟨g14 + 1, 1, none⟩ = some (.int .i64 0) := hH14.cell 1
              have z0 : w14.cell? ⟨g14, 0, none⟩ = some (.int .i64 (most : Int)) := hX14.cell 0
              have z1 : w14.cell? ⟨g14, 1, none⟩ = some (.slice Ap pn cp) := hX14.cell 1
              have z2 : w14.cell? ⟨g14, 2, none⟩ = some (.slice Af fn cf) := hX14.cell 2
              have q0 := hB14.cell 0
              have q1 := hB14.cell 1
              have q2 := hB14.cell 2
              have f0 := hB14.frozen 0
              have f1 := hB14.frozen 1
              have f2 := hB14.frozen 2
              simp at q0 q1 q2
              have HBQ := Lib.hid hB14
              rw [hg17]
              clear hwa hg17 hb14 hh14 hX14 hH14 hB14 HX13 HH13 HBX13
              go_wp2_with fail
              go_roundw
              case rel =>
                have hfin := HS10.out.turn HB12.out HS12.out.ref HO13.out HS13.out HB14.out HS10.out.wf (sonly3 w14 gb (.int .i64 (most : Int)) (.slice Ap pn cp) (.slice Af fn cf)) (by rw [HPV.out, HFV.out, HMO.out]; exact sbox3 HBQ.out)
                exact ⟨_, _, _, _, _, hfin, by omega⟩
              case measure =>
                have hfin := HS10.out.turn HB12.out HS12.out.ref HO13.out HS13.out HB14.out HS10.out.wf (sonly3 w14 gb (.int .i64 (most : Int)) (.slice Ap pn cp) (.slice Af fn cf)) (by rw [HPV.out, HFV.out, HMO.out]; exact sbox3 HBQ.out)
                show n - numC _ D < n - numC _ D
                rw [hfin.num.numC, hNC.out]
                omega
            | false =>
              have HAR : Hid (Calls Try.prog 29 #[.agg #[.int .i64 (most : Int), .slice Ap pn cp, .slice Af fn cf], entV en rv pe] w10 (AddRPost w10 B m en)) := by
                have h1 := raddr_ok w10 B pv fv m L _ HS10.out.ref HS10.out.le HS10.out.wf (by omega) en rv pe HE10.out hf
                rw [HSV.out] at h1
                exact h1
              have HFU := Lib.hid hf
              clear hf
              go_wp2_with fail
              refine HAR.out.mono ?_
              rintro e w11 ⟨pv9, fv9, L9, rfl, hb11, hr9⟩
              obtain ⟨A9, c9, hpv9⟩ := own_form hr9.row
              obtain ⟨B9, d9, hfv9⟩ := own_form hr9.fre
              have HSV9 : Hid (storeV (m.add en) pv9 fv9 = .agg #[.int .i64 (most : Int), .slice A9 L9.length c9, .slice B9 (m.add en).fr.length d9]) := Lib.hid (by rw [hpv9, hfv9, ← HMO.out]; rfl)
              have HPV9 := Lib.hid hpv9
              have HFV9 := Lib.hid hfv9
              have HR9 := Lib.hid hr9
              obtain ⟨l9, hl9⟩ : ∃ x, L9.length = x := ⟨_, rfl⟩
              obtain ⟨m9, hm9⟩ : ∃ x, (m.add en).fr.length = x := ⟨_, rfl⟩
              rw [hl9, hm9] at HSV9
              have HL9 := Lib.hid hl9
              have HM9 := Lib.hid hm9
              obtain ⟨sv, hsv⟩ : ∃ s : Int, (m.slot : Int) = s := ⟨_, rfl⟩
              obtain ⟨uv, huv⟩ : ∃ s : Int, (m.use : Int) = s := ⟨_, rfl⟩
              rw [HSV9.out, hsv, huv]
              have HVV := Lib.hid (And.intro hsv huv)
              clear hr9 hpv9 hfv9 hl9 hm9 hsv huv
              have HB11 := Lib.hid hb11
              have hz11 := hb11.size
              clear hb11 y0 y1 y2 qa ld HAR
              go_upto_region 18 with (fail)
              generalize hwa : World.alloc (World.alloc _ _) _ = w12
              have hb12 : Below w11.heap.size w11 w12 := by rw [← hwa]; exact ((Below.refl _ _).alloc (Nat.le_refl _) _).alloc (by simp) _
              have hx12 : Blk w12 w11.heap.size 28 #[.int .i64 (most : Int), .slice A9 l9 c9, .slice B9 m9 d9] := by rw [← hwa]; exact (Blk.new _ _ _).alloc _
              have hh12 : Blk w12 (w11.heap.size + 1) 43 #[.int .i64 sv, .int .i64 uv] := by rw [← hwa]; exact blk_at (by simp)
              have HB12 := Lib.hid (HB11.out.trans (hb12.mono hz11))
              have HX12 := Lib.hid hx12
              have HH12 := Lib.hid hh12
              have HS12 := Lib.hid (HS10.out.below HB12.out)
              have HE12 := Lib.hid (HE10.out.below HB12.out)
              have HK12 := Lib.hid (HK10.out.below HB12.out HK10.out.lt)
              have HR12 := Lib.hid (HR9.out.below hb12)
              have hz12 := hb12.size
              have hgn : w11.heap.size ≠ gb := by have := HS10.out.box.lt; omega
              have qa : AggOk 41 w12 (.pointer (some ⟨ge, 0, none⟩)) := aggOk_mk (blk_rangeN HK12.out) (entCells_len _ _ _)
              have ld := loadN_eq (n := 41) (blk_rangeN HK12.out) (entCells_len _ _ _)
              obtain ⟨g14, hg14⟩ : ∃ g, w11.heap.size = g := ⟨_, rfl⟩
              rw [hg14] at HX12 HH12 hgn ⊢
              clear hwa hb12 hx12 hh12 hg14
              have HAP : Hid (Calls Try.prog 14 #[.pointer (some ⟨C, 0, none⟩), entV en rv pe] w12 fun ed w' => ed = .returned (.tuple #[.agg #[.int .i64 sv, .int .i64 uv], .bool true]) ∧ Only (SFoot w12 B) w12 w' ∧ SlR w' B C (m.add en)) := by
                have h1 := radd_ok w12 B C m _ HS12.out.slb HS12.out.le HS12.out.wf (by omega) en rv pe HE12.out.rd HM.out HFU.out
                rw [HVV.out.1, HVV.out.2] at h1
                exact h1
              go_wp2_with fail
              refine HAP.out.mono ?_
              rintro e w13 ⟨rfl, ho13, hs13⟩
              have HO13 := Lib.hid ho13
              have HS13 := Lib.hid hs13
              have hX13 := HX12.out.only ho13 (SFoot.not HX12.out (by decide))
              have hH13 := HH12.out.only ho13 (SFoot.not HH12.out (by decide))
              have hB13 := HS12.out.box.only ho13 (SFoot.not HS12.out.box (by decide))
              have HX13 := Lib.hid hX13
              have HH13 := Lib.hid hH13
              have HBX13 := Lib.hid hB13
              clear ho13 hs13 hX13 hH13 hB13 qa ld HAP
              go_upto_region 19 with (fail)
              generalize hwa : World.alloc _ _ = w14
              obtain ⟨g17, hg17⟩ : ∃ g, w13.heap.size = g := ⟨_, rfl⟩
              have hb14 : Below w13.heap.size w13 w14 := by rw [← hwa]; exact (Below.refl _ _).alloc (Nat.le_refl _) _
              have hh14 : Blk w14 g17 43 #[.int .i64 sv, .int .i64 uv] := by rw [← hwa, ← hg17]; exact heap_alloc_new _ _
              have HB14 := Lib.hid hb14
              have hX14 := HX13.out.below hb14 HX13.out.lt
              have hH14 := HH13.out.below hb14 HH13.out.lt
              have hB14 := HBX13.out.below hb14 HBX13.out.lt
              rw [HPV.out, HFV.out, HMO.out] at hB14
              have k0 : w14.cell? ⟨g17, 0, none⟩ = some (.int .i64 sv) := hh14.cell 0
              have k1 : w14.cell? ⟨g17, 1, none⟩ = some (.int .i64 uv) := hh14.cell 1
              have l0 : w14.cell? ⟨g14 + 1, 0, none⟩ = some (.int .i64 sv) := hH14.cell 0
              have l1 : w14.cell? ⟨g14 + 1, 1, none⟩ = some (.int .i64 uv) := hH14.cell 1
              have z0 : w14.cell? ⟨g14, 0, none⟩ = some (.int .i64 (most : Int)) := hX14.cell 0
              have z1 : w14.cell? ⟨g14, 1, none⟩ = some (.slice A9 l9 c9) := hX14.cell 1
              have z2 : w14.cell? ⟨g14, 2, none⟩ = some (.slice B9 m9 d9) := hX14.cell 2
              have q0 := hB14.cell 0
              have q1 := hB14.cell 1
              have q2 := hB14.cell 2
              have f0 := hB14.frozen 0
              have f1 := hB14.frozen 1
              have f2 := hB14.frozen 2
              simp at q0 q1 q2
              have HBQ := Lib.hid hB14
              rw [hg17]
              clear hwa hg17 hb14 hh14 hX14 hH14 hB14 HX13 HH13 HBX13
              go_wp2_with fail
              go_roundw
              case rel =>
                have hfin := HS10.out.turn HB12.out HR12.out HO13.out HS13.out HB14.out ((HSE.out.wf.add HFU.out HM.out).more hN3a) (sonly3 w14 gb (.int .i64 (most : Int)) (.slice A9 l9 c9) (.slice B9 m9 d9)) (by rw [HPV9.out, HFV9.out, HL9.out, HM9.out]; show Blk _ _ _ #[.int .i64 (m.most : Int), _, _]; rw [HMO.out]; exact sbox3 HBQ.out)
                exact ⟨_, _, _, _, _, hfin, by omega⟩
              case measure =>
                have hfin := HS10.out.turn HB12.out HR12.out HO13.out HS13.out HB14.out ((HSE.out.wf.add HFU.out HM.out).more hN3a) (sonly3 w14 gb (.int .i64 (most : Int)) (.slice A9 l9 c9) (.slice B9 m9 d9)) (by rw [HPV9.out, HFV9.out, HL9.out, HM9.out]; show Blk _ _ _ #[.int .i64 (m.most : Int), _, _]; rw [HMO.out]; exact sbox3 HBQ.out)
                show n - numC _ D < n - numC _ D
                rw [hfin.num.numC, hNC.out]
                omega
    · have t1 : ¬ (N : Int) < n := by omega
      have hbx := HST.out.box
      rw [HPV.out, HFV.out, HMO.out] at hbx
      have y0 : wr.cell? ⟨gb, 0, none⟩ = some (.int .i64 (most : Int)) := hbx.cell 0
      have y1 : wr.cell? ⟨gb, 1, none⟩ = some (.slice Ap pn cp) := hbx.cell 1
      have y2 : wr.cell? ⟨gb, 2, none⟩ = some (.slice Af fn cf) := hbx.cell 2
      have q0 := HST.out.rbx.cell 0
      have q1 := HST.out.rbx.cell 1
      have q2 := HST.out.rbx.cell 2
      have f0 := HST.out.rbx.frozen 0
      have f1 := HST.out.rbx.frozen 1
      have f2 := HST.out.rbx.frozen 2
      simp at q0 q1 q2
      have hng := HST.out.g3n
      clear hbx
      go_upto_region 22 with (fail)
      refine wp_region_noPanic ?_
      refine wp_region_held_drew (S := fun W => W.cell? ⟨gb, 0, none⟩ = some (.int .i64 (most : Int)) ∧ W.cell? ⟨gb, 1, none⟩ = some (.slice Ap pn cp) ∧ W.cell? ⟨gb, 2, none⟩ = some (.slice Af fn cf)) (by kernel_rfl) ⟨y0, y1, y2⟩ (fun hHeld => ?_)
      refine wpAnyH_take (i := 0) (oi := ⟨some 106, _, _, _, _, _⟩) (v := ?_) rfl (by kernel_rfl) (by kernel_rfl) (by kernel_rfl) (fun _ _ _ h => h) (Or.inl ⟨by kernel_rfl, ?_⟩) hHeld ?_
      rotate_left
      · intro w hSw
        obtain ⟨s0, s1, s2⟩ := hSw
        go_simp
        all_goals (with_reducible rfl)
      conv => arg 8; simp only [Act.put, List.setIfInBounds_toArray, List.set_cons_zero, List.set_cons_succ]
      refine wpAnyH_take (i := 1) (oi := ⟨some 107, _, _, _, _, _⟩) (v := ?_) rfl (by kernel_rfl) (by kernel_rfl) (by kernel_rfl) (fun _ _ _ h => h) (Or.inl ⟨by kernel_rfl, ?_⟩) hHeld ?_
      rotate_left
      · intro w hSw
        obtain ⟨s0, s1, s2⟩ := hSw
        go_simp
        all_goals (with_reducible rfl)
      conv => arg 8; simp only [Act.put, List.setIfInBounds_toArray, List.set_cons_zero, List.set_cons_succ]
      refine wpAnyH_take (i := 2) (oi := ⟨some 2, _, _, _, _, _⟩) (v := ?_) rfl (by kernel_rfl) (by kernel_rfl) (by kernel_rfl) (fun _ _ _ h => h) (Or.inl ⟨by kernel_rfl, ?_⟩) hHeld ?_
      rotate_left
      · intro w hSw
        obtain ⟨s0, s1, s2⟩ := hSw
        go_simp
        all_goals (with_reducible rfl)
      conv => arg 8; simp only [Act.put, List.setIfInBounds_toArray, List.set_cons_zero, List.set_cons_succ]
      refine wpAnyH_ready (rs := [3]) (by kernel_rfl) (by simp) ?_
      refine AllReadyH.cons (o := ⟨none, _, _, _, _, _⟩) rfl (fun K hK => ?_) AllReadyH.nil
      go_simp
      refine hK.out _ _ ?_ (fun hHeld => ?_)
      · exact ⟨(cdrew _ _).trans ((cell3 _ _ _ _ _ _ hng).trans y0), (cdrew _ _).trans ((cell3 _ _ _ _ _ _ hng).trans y1), (cdrew _ _).trans ((cell3 _ _ _ _ _ _ hng).trans y2)⟩
      clear hK K
      conv => arg 8; simp only [Act.put, List.setIfInBounds_toArray, List.set_cons_zero, List.set_cons_succ]
      refine wpAnyH_take (i := 4) (oi := ⟨some 4, _, _, _, _, _⟩) (v := ?_) rfl (by kernel_rfl) (by kernel_rfl) (by kernel_rfl) (fun _ _ _ h => h) (Or.inl ⟨by kernel_rfl, ?_⟩) hHeld ?_
      rotate_left
      · intro w hSw
        obtain ⟨s0, s1, s2⟩ := hSw
        go_simp
        all_goals (with_reducible rfl)
      conv => arg 8; simp only [Act.put, List.setIfInBounds_toArray, List.set_cons_zero, List.set_cons_succ]
      refine wpAnyH_done (by kernel_rfl) ?_ _
      refine NoPanic.normal ?_
      generalize hwf : World.setCell _ _ _ = wf
      have hrs : Blk wf g3 28 #[.int .i64 (most : Int), .slice Ap pn cp, .slice Af fn cf] := by rw [← hwf]; exact sbox3 HST.out.rbx
      have oF : Only (fun k => k = g3) wr wf := by rw [← hwf]; exact sonly3 _ _ _ _ _
      have hrs := hrs.drew_
      have oF := oF.drew_
      clear hwf hHeld q0 q1 q2 f0 f1 f2 y0 y1 y2 x1
      go_wp2_with fail
      have hrx := HST.out.rbx
      refine bodyPost_ret (results_tmp_cell_tmp rfl _ _ g3 _ _ (0, 0) _ rfl hrs Try.underlying28 rfl (by kernel_rfl)) rfl ⟨C, m, pv, fv, L, N, ?_, ?_, ?_, ?_, ?_, ?_, ?_⟩
      · rw [HSV.out]; rfl
      · exact Only.below_trans HST.out.bel oF hzr (fun k hk => by rw [hk]; exact hg3B)
      · exact Nat.le_trans hzr oF.size
      · exact HST.out.slb.apart oF (fun g hg => ⟨28, _, hg.symm ▸ hrx, by decide⟩)
      · exact HST.out.ref.apart oF (fun g hg => ⟨28, _, hg.symm ▸ hrx, by decide⟩)
      · exact HST.out.wf
      · omega
end Go.Proofs.Ytnihkjhejjeepaa
