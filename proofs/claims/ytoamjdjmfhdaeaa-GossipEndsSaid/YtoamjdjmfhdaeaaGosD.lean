/- gossip.Left and Next; Left and Next of the reference; SameBytes. -/
import Derived.Test.YtoamjdjmfhdaeaaGosC
import Derived.Laws.IdiomStrings
namespace Go.Proofs.Ytoamjdjmfhdaeaa
open Go.RowKit
set_option linter.unusedVariables false
set_option linter.unusedSimpArgs false
open ShaW Sha

theorem conv_none (w : World) (c : Nat) : (convert 33 9 (.slice none 0 c)).run Try.prog w = .ok (.string ByteArray.empty) w := by kernel_rfl
theorem conv_reads (w : World) (A : Option Addr) (n c B : Nat) (f : Nat → UInt8) (hr : Reads w B 1 A n (bytesOf n f)) :
    (convert 33 9 (.slice A n c)).run Try.prog w = .ok (.string ⟨((List.range n).map f).toArray⟩) w := by
  rcases A with _ | a
  · rcases Nat.eq_zero_or_pos n with rfl | h
    · exact conv_none w c
    · obtain ⟨ad, _, h1, _⟩ := hr.at_ h
      cases h1
  · have h := run_convert_bytes_back (P := Try.prog) w 33 9 5 a c ((List.range n).map f) Try.underlying33 Try.underlying5 Try.underlying9 (fun j hj => by
      simp only [List.length_map, List.length_range] at hj
      obtain ⟨ad, u, h1, _, h2, h3⟩ := hr.at_ hj
      injection h1 with h1
      subst h1
      rw [h3, ← h2, bytesOf_get f hj]
      simp)
    simpa using h
theorem same_reads (w : World) (A1 A2 : Option Addr) (n c1 c2 B1 B2 : Nat) (f : Nat → UInt8) (h1 : Reads w B1 1 A1 n (bytesOf n f)) (h2 : Reads w B2 1 A2 n (bytesOf n f)) :
    Calls Try.prog 15 #[.slice A1 n c1, .slice A2 n c2] w fun e w' => e = .returned (.bool true) ∧ w = w' := by
  have h1 := conv_reads w A1 n c1 B1 f h1
  have h2 := conv_reads w A2 n c2 B2 f h2
  generalize (ByteArray.mk ((List.range n).map f).toArray) = S at h1 h2
  go_enter Try.func15, Try.ntmps15
  go_wp2_with fail
  go_ret
  exact ⟨by first | rfl | simp, rfl⟩
theorem leftE_sub {p : Int} {ps : List Ky} {l : List EItem} {x : EItem} (h : x ∈ leftE p ps l) : x ∈ l := (List.mem_filter.1 h).1
theorem leftE_len (p : Int) (ps : List Ky) (l : List EItem) : (leftE p ps l).length ≤ l.length := List.length_filter_le _ _
theorem entKeys_snoc {l : List EItem} {n : Nat} {x : EItem} (h : l[n]? = some x) : entKeys (l.take (n + 1)) = entKeys (l.take n) ++ [x.e.key] := by
  obtain ⟨hlt, e⟩ := List.getElem?_eq_some_iff.1 h
  unfold entKeys
  rw [List.take_succ_eq_append_getElem hlt, e, List.map_append]; rfl
theorem entKeys_len (l : List EItem) : (entKeys l).length = l.length := by unfold entKeys; rw [List.length_map]
set_option maxRecDepth 100000 in
set_option maxHeartbeats 4000000 in
attribute [local go_sem ↓] wp_load_k wp_load_ent wp_store_ent in
theorem gLeft_any (w : World) (A : Option Addr) (m c : Nat) (ps : List Ky) (h : KeysAt w A m c ps) (hm47 : m ≤ 977343669106) (A' : Option Addr) (m' c' : Nat) (l : List EItem) (h' : EntsAt w A' m' c' l) (hm' : m' ≤ 977343669106) (hpn : ∀ x ∈ l, x.e.peers.length ≤ 17592186043904) (p : Int) :
    Calls Try.prog 16 #[.slice A' m' c', .int .i64 p, .slice A m c] w fun e w' => ∃ v, e = .returned v ∧ KeysOut w w' v (entKeys (leftE p ps l)) := by
  obtain ⟨i0, hi0, hz0, hz1, hz2⟩ := info_parts key_info
  have HI0 := Lib.hid hi0
  have HZ0 := Lib.hid hz0
  have HC := Lib.hid (gleft0_any w A m c ps h hm47 A' m' c' l h' hm' hpn p)
  have HRD := Lib.hid h'.2.2.2.2
  have hlm : (leftE p ps l).length ≤ 977343669106 := by have := leftE_len p ps l; have := h'.1; omega
  have HSUB : Hid (∀ x ∈ leftE p ps l, x ∈ l) := Lib.hid (fun x hx => leftE_sub hx)
  clear hi0 hz0 hpn h h'
  obtain ⟨L, hL⟩ : ∃ L, leftE p ps l = L := ⟨_, rfl⟩
  rw [hL] at HC HSUB hlm ⊢
  clear hL
  go_enter Try.func16, Try.ntmps16
  go_wp2_with fail
  refine HC.out.mono ?_
  rintro e wh ⟨v, rfl, hbh, hoh⟩
  obtain ⟨Av, cv, rfl, hev⟩ := hoh.form (fun x hx => (HRD.out x (HSUB.out x hx)).below hbh)
  have HBH := Lib.hid hbh
  have hzh := hbh.size
  have HE := Lib.hid hev
  obtain ⟨M, hM⟩ : ∃ M, L.length = M := ⟨_, rfl⟩
  rw [hM] at HE hlm ⊢
  have HM := Lib.hid hM
  clear hbh hoh hev HC HSUB HRD hM
  go_wp2_with fail
  go_loopw [7, 15] (fun v i wq => ∃ j : Nat, j ≤ M ∧ i = .int .i64 (j : Int) ∧ PrAt wh wq v (entKeys (L.take j))) (fun _ i _ => M - (intOf i).toNat)
  case atStart => exact ⟨0, by omega, rfl, Below.refl _ _, OwnK.nil _ _⟩
  case round =>
    obtain ⟨j, hj, rfl, hbq, hoq⟩ := hrel
    have HBQ := Lib.hid hbq
    have HOQ := Lib.hid hoq
    have hzq := hbq.size
    clear hbq hoq
    rcases Nat.lt_or_ge j M with hlt | hge
    · have hlt' : (j : Int) < M := by omega
      have hj0 : (0 : Int) ≤ j := by omega
      obtain ⟨g, o, hA, hat⟩ := (HE.out.below HBQ.out).at_
      obtain rfl := hA (by omega)
      obtain ⟨x, hx, hr, hrd⟩ := hat j hlt
      have q1 := aggOk_mk hr (entCells_len _ _ _)
      have q2 := loadN_eq hr (entCells_len _ _ _)
      have qs := box_sto wr x.e x.rv x.pv hrd.one
      have hks := entKeys_snoc hx
      obtain ⟨kk, hkx⟩ : ∃ kk, x.e.key = kk := ⟨_, rfl⟩
      rw [hkx] at hks
      have HKS := Lib.hid hks
      clear hA hat hr hrd hx hks
      go_upto_region 5 with (fail)
      generalize hwc : storeMid _ _ _ = wc
      have hbx := box_end hwc
      have hkc := blk_ent_key hbx.2
      rw [hkx] at hkc
      have r1 := keyOk_mk hkc
      have r2 := loadK_eq hkc
      have HOC := Lib.hid (HOQ.out.below hbx.1)
      have HBC := Lib.hid (HBQ.out.trans (hbx.1.mono hzq))
      have hzc := HBC.out.size
      have hfl : (entKeys (L.take j)).length ≤ 977343669106 := by rw [entKeys_len, List.length_take]; omega
      clear hwc hbx hkc q1 q2 qs
      go_wp2_with (first
        | (refine wpList_buildSlice rfl 23 41 1 _ rfl (bytesOf 32 kk).toArray i0 _ Try.underlying23 HI0.out HZ0.out (by rw [hz1]; omega) (by rw [hz1]; omega) (by simp only [List.map_toArray, List.map_cons, List.map_nil]; exact key_fill kk i0 hz1) ?_)
        | (at_builtin
           refine wpList_app_key rfl (.tmp 19) (.tmp 22) rfl wh.heap.size _ _ rfl HOC.out kk rfl hfl hzc ?_
           intro v3 w3 ho3 hb3
           have HO3 := Lib.hid ho3
           have HB3 := Lib.hid (HBC.out.trans hb3)
           clear ho3 hb3))
      go_roundw
      case rel =>
        refine ⟨j + 1, by omega, by go_num, HB3.out, ?_⟩
        rw [HKS.out]
        exact HO3.out
      case measure => simp [intOf]; omega
    · obtain rfl : j = M := by omega
      have hge' : ¬ (j : Int) < j := by omega
      have hoq := HOQ.out
      rw [List.take_of_length_le (by rw [HM.out]; omega)] at hoq
      have HOF := Lib.hid hoq
      clear hoq
      go_wp2_with fail
      go_ret
      exact ⟨_, rfl, HBH.out.trans (HBQ.out.mono hzh), HOF.out.less hzh⟩

/-- what Next answers -/
def nextN (o : Option EItem) : Nat := match o with | none => 0 | some x => x.e.rn
def nextF (o : Option EItem) : Nat → UInt8 := match o with | none => fun _ => 0 | some x => x.e.raw
def NextOut (w w' : World) (e : Ending) (o : Option EItem) : Prop := ∃ A c, e = .returned (.tuple #[.slice A (nextN o) c, .bool o.isSome]) ∧ Below w.heap.size w w' ∧ Reads w' w'.heap.size 1 A (nextN o) (bytesOf (nextN o) (nextF o))
set_option maxRecDepth 100000 in
set_option maxHeartbeats 4000000 in
theorem gNext_any (w : World) (A : Option Addr) (m c : Nat) (ps : List Ky) (h : KeysAt w A m c ps) (hm47 : m ≤ 977343669106) (A' : Option Addr) (m' c' : Nat) (l : List EItem) (h' : EntsAt w A' m' c' l) (hm' : m' ≤ 977343669106) (hpn : ∀ x ∈ l, x.e.peers.length ≤ 17592186043904) (hrn : ∀ x ∈ l, x.e.rn ≤ 140737488351232) (p : Int) :
    Calls Try.prog 13 #[.slice A' m' c', .int .i64 p, .slice A m c] w fun e w' => NextOut w w' e (leftE p ps l).head? := by
  have HC := Lib.hid (gleft0_any w A m c ps h hm47 A' m' c' l h' hm' hpn p)
  have HRD := Lib.hid h'.2.2.2.2
  have hlm : (leftE p ps l).length ≤ 977343669106 := by have := leftE_len p ps l; have := h'.1; omega
  have HSUB : Hid (∀ x ∈ leftE p ps l, x ∈ l) := Lib.hid (fun x hx => leftE_sub hx)
  have HRN := Lib.hid hrn
  clear hpn h h' hrn
  obtain ⟨L, hL⟩ : ∃ L, leftE p ps l = L := ⟨_, rfl⟩
  rw [hL] at HC HSUB hlm ⊢
  clear hL
  go_enter Try.func13, Try.ntmps13
  go_wp2_with fail
  refine HC.out.mono ?_
  rintro e wh ⟨v, rfl, hbh, hoh⟩
  obtain ⟨Av, cv, rfl, hev⟩ := hoh.form (fun x hx => (HRD.out x (HSUB.out x hx)).below hbh)
  have HBH := Lib.hid hbh
  have hzh := hbh.size
  rcases L with _ | ⟨x, L⟩
  · clear hbh hoh hev HC HSUB HRD
    go_wp2_with fail
    go_ret2
    exact ⟨none, 0, rfl, HBH.out, Reads.none_⟩
  · obtain ⟨g, o, hA, hat⟩ := hev.at_
    obtain rfl := hA (by simp)
    obtain ⟨y, hy, hr, hrd⟩ := hat 0 (by simp)
    have hxy : x = y := by simpa using hy
    subst hxy
    have hrx := HRN.out x (HSUB.out x (by simp))
    obtain ⟨Ar, cr, hrv, hrr, _⟩ := hrd.raw
    have c32 : wh.cell? ⟨g, o + 32, none⟩ = some (.slice Ar x.e.rn cr) := by
      have h1 := hr 32 _ (entCells_get x.e x.rv x.pv 0)
      rw [Nat.zero_mul, Nat.add_zero] at h1
      rw [h1]
      show some x.rv = _
      rw [hrv]
    have HRR := Lib.hid hrr
    obtain ⟨M, hM⟩ : ∃ M, (x :: L).length = M := ⟨_, rfl⟩
    have hM1 : 1 ≤ M := by rw [← hM]; simp
    rw [hM] at hlm ⊢
    have hM0 : ¬ (M : Int) = 0 := by omega
    clear hbh hoh hev HC HSUB HRD hA hat hr hrd hy hrv hrr hM
    go_wp2_with fail
    refine (bclone_any wh Ar x.e.rn cr (bytesOf x.e.rn x.e.raw) HRR.out (bytesOf_one _ _) (by omega)).mono ?_
    rintro e w1 ⟨A1, c1, rfl, hb1, ho1⟩
    rw [bytesOf_length] at ho1 ⊢
    have HB1 := Lib.hid (HBH.out.trans (hb1.mono hzh))
    have HO1 := Lib.hid ho1
    clear hb1 ho1
    go_wp2_with fail
    go_ret2
    exact ⟨A1, c1, rfl, HB1.out, Reads.of_own HO1.out⟩

set_option maxRecDepth 100000 in
set_option maxHeartbeats 4000000 in
attribute [local go_sem ↓] wp_load_k wp_load_ent wp_store_ent in
theorem rLeft_any (w : World) (A : Option Addr) (m c : Nat) (ps : List Ky) (h : KeysAt w A m c ps) (A' : Option Addr) (m' c' : Nat) (l : List EItem) (h' : EntsAt w A' m' c' l) (hm' : m' ≤ 977343669106) (hpn : ∀ x ∈ l, x.e.peers.length ≤ 17592186043904) (p : Int) :
    Calls Try.prog 17 #[.slice A' m' c', .int .i64 p, .slice A m c] w fun e w' => ∃ v, e = .returned v ∧ KeysOut w w' v (entKeys (leftE p ps l)) := by
  obtain ⟨i0, hi0, hz0, hz1, hz2⟩ := info_parts key_info
  have HI0 := Lib.hid hi0
  have HZ0 := Lib.hid hz0
  have HK := Lib.hid h
  have HE := Lib.hid h'
  have HL := Lib.hid h'.1
  have HPN := Lib.hid hpn
  clear hi0 hz0 hpn h h'
  go_enter Try.func17, Try.ntmps17
  go_wp2_with fail
  go_loopw [7, 12] (fun v i wq => ∃ j : Nat, j ≤ m' ∧ i = .int .i64 (j : Int) ∧ PrAt w wq v (entKeys ((l.take j).filter (lackE p ps)))) (fun _ i _ => m' - (intOf i).toNat)
  case atStart => exact ⟨0, by omega, rfl, Below.refl _ _, OwnK.nil _ _⟩
  case round =>
    obtain ⟨j, hj, rfl, hbq, hoq⟩ := hrel
    have HBQ := Lib.hid hbq
    have HOQ := Lib.hid hoq
    have hzq := hbq.size
    clear hbq hoq
    rcases Nat.lt_or_ge j m' with hlt | hge
    · have hlt' : (j : Int) < m' := by omega
      have hj0 : (0 : Int) ≤ j := by omega
      obtain ⟨g, o, hA, hat⟩ := (HE.out.below HBQ.out).at_
      obtain rfl := hA (by omega)
      obtain ⟨x, hx, hr, hrd⟩ := hat j hlt
      have q1 := aggOk_mk hr (entCells_len _ _ _)
      have q2 := loadN_eq hr (entCells_len _ _ _)
      have qs := box_sto wr x.e x.rv x.pv hrd.one
      have HX := Lib.hid hx
      have hpx := HPN.out x (List.mem_of_getElem? hx)
      have hlk : lackE p ps x = (!hasK ps x.e.key && !hasI x.e.peers p) := rfl
      have HRD := Lib.hid hrd
      clear hA hat hr hrd hx
      go_upto_region 5 with (fail)
      generalize hwc : storeMid _ _ _ = wc
      have hbx := box_end hwc
      have hbc : Below wr.heap.size wr wc := hbx.1
      have hbk : Blk wc wr.heap.size 47 (entCells x.e x.rv x.pv).toArray := hbx.2
      obtain ⟨kk, hkx⟩ : ∃ kk, x.e.key = kk := ⟨_, rfl⟩
      have hkc := blk_ent_key hbk
      rw [hkx] at hkc hlk
      have r1 := keyOk_mk hkc
      have r2 := loadK_eq hkc
      have hbcw := HBQ.out.trans (hbc.mono hzq)
      have HBC := Lib.hid hbcw
      have hzc := hbcw.size
      have HKC := Lib.hid (HK.out.below hbcw)
      have HOC := Lib.hid (HOQ.out.below hbc)
      have HBKC := Lib.hid hbk
      obtain ⟨Ap, cp, hpv, hrp, _⟩ := (HRD.out.below hbc).peers
      have c40 : wc.cell? ⟨wr.heap.size, 40, none⟩ = some (.slice Ap x.e.peers.length cp) := by rw [← hpv]; exact blk_ent_cell hbk 8
      have HRP := Lib.hid hrp
      clear hwc hbx hbc hbk hbcw hkc q1 q2 qs HRD hpv hrp
      go_wp2_with fail
      refine (hasInt_any wc Ap x.e.peers.length cp x.e.peers HRP.out (by omega) p).mono ?_
      rintro e w1 ⟨rfl, rfl⟩
      obtain ⟨b2, hb2⟩ : ∃ b2, hasI x.e.peers p = b2 := ⟨_, rfl⟩
      rw [hb2] at hlk ⊢
      clear hb2 c40
      have hfl : (entKeys ((l.take j).filter (lackE p ps))).length ≤ 977343669106 := by rw [entKeys_len]; have := filter_take_le (f := lackE p ps) (l := l) (n := j); omega
      rcases b2 with _ | _
      · go_wp2_with fail
        refine (rhas_any wc A m c ps kk HKC.out).mono ?_
        rintro e w2 ⟨rfl, hb2⟩
        obtain ⟨b, hb⟩ : ∃ b, hasK ps kk = b := ⟨_, rfl⟩
        rw [hb] at hlk ⊢
        have HLK := Lib.hid hlk
        have hkd := HBKC.out.below hb2 HBKC.out.lt
        have hk2 := blk_ent_key hkd
        rw [hkx] at hk2
        have s1 := keyOk_mk hk2
        have s2 := loadK_eq hk2
        have HO2 := Lib.hid (HOC.out.below hb2)
        have HB2 := Lib.hid (HBC.out.trans (hb2.mono hzc))
        have hz2' := HB2.out.size
        clear hlk hb hb2 hkd hk2 r1 r2
        rcases b with _ | _
        · go_wp2_with (first
            | (refine wpList_buildSlice rfl 23 41 1 _ rfl (bytesOf 32 kk).toArray i0 _ Try.underlying23 HI0.out HZ0.out (by rw [hz1]; omega) (by rw [hz1]; omega) (by simp only [List.map_toArray, List.map_cons, List.map_nil]; exact key_fill kk i0 hz1) ?_)
            | (at_builtin
               refine wpList_app_key rfl (.tmp 28) (.tmp 31) rfl w.heap.size _ _ rfl HO2.out kk rfl hfl hz2' ?_
               intro v3 w3 ho3 hb3
               have HO3 := Lib.hid ho3
               have HB3 := Lib.hid (HB2.out.trans hb3)
               clear ho3 hb3))
          go_roundw
          case rel =>
            refine ⟨j + 1, by omega, by go_num, HB3.out, ?_⟩
            rw [filter_snoc HX.out, HLK.out, if_pos (show (!false && !false) = true from rfl)]
            unfold entKeys
            rw [List.map_append, List.map_cons, List.map_nil, hkx]
            exact HO3.out
          case measure => simp [intOf]; omega
        · go_wp2_with fail
          go_roundw
          case rel =>
            refine ⟨j + 1, by omega, by go_num, HB2.out, ?_⟩
            rw [filter_snoc HX.out, HLK.out, if_neg (by simp), List.append_nil]
            exact HO2.out
          case measure => simp [intOf]; omega
      · have HLK := Lib.hid hlk
        clear hlk
        go_wp2_with fail
        go_roundw
        case rel =>
          refine ⟨j + 1, by omega, by go_num, HBC.out, ?_⟩
          rw [filter_snoc HX.out, HLK.out, Bool.not_true, Bool.and_false, if_neg (by simp), List.append_nil]
          exact HOC.out
        case measure => simp [intOf]; omega
    · obtain rfl : j = m' := by omega
      have hge' : ¬ (j : Int) < j := by omega
      have hoq := HOQ.out
      rw [List.take_of_length_le (by rw [HL.out]; omega)] at hoq
      have HOF := Lib.hid hoq
      clear hoq
      go_wp2_with fail
      go_ret
      exact ⟨_, rfl, HBQ.out, HOF.out⟩

theorem head_none {α : Type} {f : α → Bool} {l : List α} (h : l.filter f = []) : (l.filter f).head? = none := by rw [h]; rfl
theorem head_some {α : Type} {f : α → Bool} {l : List α} {n : Nat} {x : α} (hno : (l.take n).filter f = []) (hx : l[n]? = some x) (hf : f x = true) : (l.filter f).head? = some x := by
  obtain ⟨hlt, e⟩ := List.getElem?_eq_some_iff.1 hx
  have e2 : l = l.take n ++ (x :: l.drop (n + 1)) := by
    have := List.take_append_drop n l
    rw [List.drop_eq_getElem_cons hlt, e] at this
    exact this.symm
  rw [e2, List.filter_append, hno, List.nil_append, List.filter_cons, if_pos hf]
  rfl
set_option maxRecDepth 100000 in
set_option maxHeartbeats 4000000 in
attribute [local go_sem ↓] wp_load_k wp_load_ent wp_store_ent in
theorem rNext_any (w : World) (A : Option Addr) (m c : Nat) (ps : List Ky) (h : KeysAt w A m c ps) (A' : Option Addr) (m' c' : Nat) (l : List EItem) (h' : EntsAt w A' m' c' l) (hm' : m' ≤ 977343669106) (hpn : ∀ x ∈ l, x.e.peers.length ≤ 17592186043904) (hrn : ∀ x ∈ l, x.e.rn ≤ 140737488351232) (p : Int) :
    Calls Try.prog 14 #[.slice A' m' c', .int .i64 p, .slice A m c] w fun e w' => NextOut w w' e (leftE p ps l).head? := by
  obtain ⟨i0, hi0, hz0, hz1, hz2⟩ := info_parts u8_info
  have HI0 := Lib.hid hi0
  have HZ0 := Lib.hid hz0
  have HK := Lib.hid h
  have HE := Lib.hid h'
  have HL := Lib.hid h'.1
  have HPN := Lib.hid hpn
  have HRN := Lib.hid hrn
  clear hi0 hz0 hpn h h' hrn
  go_enter Try.func14, Try.ntmps14
  go_wp2_with fail
  go_loopw [12] (fun i wq => ∃ j : Nat, j ≤ m' ∧ i = .int .i64 (j : Int) ∧ Below w.heap.size w wq ∧ (l.take j).filter (lackE p ps) = []) (fun i _ => m' - (intOf i).toNat)
  case atStart => exact ⟨0, by omega, rfl, Below.refl _ _, rfl⟩
  case round =>
    obtain ⟨j, hj, rfl, hbq, hoq⟩ := hrel
    have HBQ := Lib.hid hbq
    have HNO := Lib.hid hoq
    have hzq := hbq.size
    clear hbq hoq
    rcases Nat.lt_or_ge j m' with hlt | hge
    · have hlt' : (j : Int) < m' := by omega
      have hj0 : (0 : Int) ≤ j := by omega
      obtain ⟨g, o, hA, hat⟩ := (HE.out.below HBQ.out).at_
      obtain rfl := hA (by omega)
      obtain ⟨x, hx, hr, hrd⟩ := hat j hlt
      have q1 := aggOk_mk hr (entCells_len _ _ _)
      have q2 := loadN_eq hr (entCells_len _ _ _)
      have qs := box_sto wr x.e x.rv x.pv hrd.one
      have HX := Lib.hid hx
      have hpx := HPN.out x (List.mem_of_getElem? hx)
      have hrx := HRN.out x (List.mem_of_getElem? hx)
      have hlk : lackE p ps x = (!hasK ps x.e.key && !hasI x.e.peers p) := rfl
      have HRD := Lib.hid hrd
      clear hA hat hr hrd hx
      go_upto_region 4 with (fail)
      generalize hwc : storeMid _ _ _ = wc
      have hbx := box_end hwc
      have hbc : Below wr.heap.size wr wc := hbx.1
      have hbk : Blk wc wr.heap.size 47 (entCells x.e x.rv x.pv).toArray := hbx.2
      obtain ⟨kk, hkx⟩ : ∃ kk, x.e.key = kk := ⟨_, rfl⟩
      have hkc := blk_ent_key hbk
      rw [hkx] at hkc hlk
      have r1 := keyOk_mk hkc
      have r2 := loadK_eq hkc
      have hbcw := HBQ.out.trans (hbc.mono hzq)
      have HBC := Lib.hid hbcw
      have hzc := hbcw.size
      have HKC := Lib.hid (HK.out.below hbcw)
      have HBKC := Lib.hid hbk
      have HRDC := Lib.hid (HRD.out.below hbc)
      obtain ⟨Ap, cp, hpv, hrp, _⟩ := HRDC.out.peers
      have c40 : wc.cell? ⟨wr.heap.size, 40, none⟩ = some (.slice Ap x.e.peers.length cp) := by rw [← hpv]; exact blk_ent_cell hbk 8
      have HRP := Lib.hid hrp
      clear hwc hbx hbc hbk hbcw hkc q1 q2 qs HRD hpv hrp
      go_wp2_with fail
      refine (hasInt_any wc Ap x.e.peers.length cp x.e.peers HRP.out (by omega) p).mono ?_
      rintro e w1 ⟨rfl, rfl⟩
      obtain ⟨b2, hb2⟩ : ∃ b2, hasI x.e.peers p = b2 := ⟨_, rfl⟩
      rw [hb2] at hlk ⊢
      clear hb2 c40
      rcases b2 with _ | _
      · go_wp2_with fail
        refine (rhas_any wc A m c ps kk HKC.out).mono ?_
        rintro e w2 ⟨rfl, hb2⟩
        obtain ⟨b, hb⟩ : ∃ b, hasK ps kk = b := ⟨_, rfl⟩
        rw [hb] at hlk ⊢
        have hkd := HBKC.out.below hb2 HBKC.out.lt
        have HB2 := Lib.hid (HBC.out.trans (hb2.mono hzc))
        have hz2' := HB2.out.size
        obtain ⟨Ar, cr, hrv, hrr, _⟩ := (HRDC.out.below hb2).raw
        have c32 : w2.cell? ⟨wr.heap.size, 32, none⟩ = some (.slice Ar x.e.rn cr) := by rw [← hrv]; exact blk_ent_cell hkd 0
        have HRR := Lib.hid (hrr.alloc (Nat.le_refl _) (.cells #[] 5))
        have HO := Lib.hid (lit_ownsE w2 5)
        have d32 : (w2.alloc (.cells #[] 5)).cell? ⟨wr.heap.size, 32, none⟩ = some (.slice Ar x.e.rn cr) := (World.cell?_alloc_lt w2 _ _ (World.block_lt_of_cell? w2 _ c32)).trans c32
        rcases b with _ | _
        · have HHD := Lib.hid (head_some HNO.out HX.out hlk)
          clear hlk hb hb2 hkd r1 r2 hrv hrr
          go_wp2_with (first
            | (at_builtin
               refine wpList_append_any _ rfl (.tmp 28) (.tmp 30) _ rfl w2.heap.size 5 i0 _ 1 1 Try.underlying33 HI0.out HZ0.out hz1 hz2 rfl (by omega) _ 0 [] rfl
                 HO.out _ Ar x.e.rn cr _ rfl HRR.out (bytesOf_one _ _) (by unfold maxLen; omega) (by omega) (by simp) ?_
               intro v3 w3 ho3 hg3 hat3
               rw [Nat.zero_add, List.nil_append] at ho3
               have hb3 : Below w2.heap.size w2 w3 := ((Below.refl _ _).alloc (Nat.le_refl _) _).grown hg3 (by rw [World.size_alloc]; omega) (fun g e => by have := Option.some.inj (show some w2.heap.size = some g from e); omega)
               obtain ⟨A3, c3, rfl⟩ := own_form ho3
               have HO3 := Lib.hid ho3
               have HB3 := Lib.hid (HB2.out.trans (hb3.mono hz2'))
               clear ho3 hg3 hat3 hb3))
          go_ret2
          unfold leftE
          rw [HHD.out]
          exact ⟨A3, c3, rfl, HB3.out, Reads.of_own HO3.out⟩
        · have HLK := Lib.hid hlk
          clear hlk hb hb2 hkd r1 r2 hrv hrr c32 d32
          go_wp2_with fail
          go_roundw
          case rel =>
            refine ⟨j + 1, by omega, by go_num, HB2.out, ?_⟩
            rw [filter_snoc HX.out, HLK.out, if_neg (by simp), List.append_nil]
            exact HNO.out
          case measure => simp [intOf]; omega
      · have HLK := Lib.hid hlk
        clear hlk
        go_wp2_with fail
        go_roundw
        case rel =>
          refine ⟨j + 1, by omega, by go_num, HBC.out, ?_⟩
          rw [filter_snoc HX.out, HLK.out, Bool.not_true, Bool.and_false, if_neg (by simp), List.append_nil]
          exact HNO.out
        case measure => simp [intOf]; omega
    · obtain rfl : j = m' := by omega
      have hge' : ¬ (j : Int) < j := by omega
      have hoq := HNO.out
      rw [List.take_of_length_le (by rw [HL.out]; omega)] at hoq
      have HHD := Lib.hid (head_none hoq)
      clear hoq
      go_wp2_with fail
      go_ret2
      unfold leftE
      rw [HHD.out]
      exact ⟨none, 0, rfl, HBQ.out, Reads.none_⟩
end Go.Proofs.Ytoamjdjmfhdaeaa
