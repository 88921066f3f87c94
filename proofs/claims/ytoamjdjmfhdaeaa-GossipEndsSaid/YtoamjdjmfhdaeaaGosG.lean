/- The laws' raw, long and scene. -/
import Derived.Test.YtoamjdjmfhdaeaaGosF
namespace Go.Proofs.Ytoamjdjmfhdaeaa
open Go.RowKit
set_option linter.unusedVariables false
set_option linter.unusedSimpArgs false
open ShaW Sha

set_option maxHeartbeats 1000000 in
theorem long_gen (w : World) (g : Nat) (A : Option Addr) (n c : Nat) (b : Bool) (hc : w.cell? ⟨g, 0, none⟩ = some (.slice A n c)) (hn : n ≤ 9223372036854775807) (hb : decide (160 < (n : Int)) = b) :
    Calls Try.prog 6 #[.slice (some ⟨g, 0, none⟩) 1 1] w fun e w' => e = .returned (.bool b) ∧ w = w' := by
  have HB := Lib.hid hb
  clear hb
  go_enter Try.func6, Try.ntmps6
  go_wp2
  go_loop [3, 8] (fun s i => (s = .int .i64 0 ∧ i = .int .i64 0) ∨ (s = .int .i64 (n : Int) ∧ i = .int .i64 1)) (fun _ i => 1 - (intOf i).toNat)
  case atStart => exact .inl ⟨rfl, rfl⟩
  case round =>
    rcases hrel with ⟨rfl, rfl⟩ | ⟨rfl, rfl⟩
    · go_wp2
      go_round
      case rel => exact .inr ⟨rfl, rfl⟩
      case measure => simp [intOf]
    · go_wp2
      go_ret
      refine ⟨?_, rfl⟩
      rw [← HB.out]
      rfl
theorem below_dn {B : Nat} {a w : World} (h : Below B a w) (k : Nat) : Below B a (w.drewN k) := ⟨h.os, h.tape, h.output, h.size, h.block⟩
theorem long_any (w : World) (A : Option Addr) (n c g : Nat) (t : TypeId) (hg : g = w.heap.size) (hn : n ≤ 9223372036854775807) (b : Bool) (hb : decide (160 < (n : Int)) = b) :
    Calls Try.prog 6 #[.slice (some ⟨g, 0, none⟩) 1 1] (w.alloc (.cells #[.slice A n c] t)) fun e w' => e = .returned (.bool b) ∧ w.alloc (.cells #[.slice A n c] t) = w' :=
  long_gen _ g A n c b (by subst hg; rw [World.cell?_alloc_at _ _ _ _ rfl]; rfl) hn hb


def RawPost (w : World) (e : Ending) (w' : World) : Prop := ∃ b : Bool, e = .returned (.bool b) ∧ Below w.heap.size w w'
set_option maxRecDepth 100000 in
set_option maxHeartbeats 4000000 in
attribute [local go_sem ↓] wp_load_ent wp_store_ent in
theorem raw_any (w : World) (A' : Option Addr) (m' c' : Nat) (l : List EItem) (h' : EntsAt w A' m' c' l) :
    Calls Try.prog 7 #[.slice A' m' c'] w (RawPost w) := by
  have hmc : m' ≤ 9223372036854775807 := Nat.le_trans h'.2.1 h'.2.2.1
  have HE := Lib.hid h'
  clear h'
  go_enter Try.func7, Try.ntmps7
  go_wp2_with fail
  go_loopw [3, 10] (fun s i wr => ∃ (j : Nat) (z : Int), j ≤ m' ∧ i = .int .i64 (j : Int) ∧ s = .int .i64 z ∧ Below w.heap.size w wr) (fun _ i _ => m' - (intOf i).toNat)
  case atStart => exact ⟨0, _, by omega, rfl, rfl, Below.refl _ _⟩
  case round =>
    obtain ⟨j, z, hj, rfl, rfl, hbq⟩ := hrel
    have HBQ := Lib.hid hbq
    have hzq := hbq.size
    clear hbq
    rcases Nat.lt_or_ge j m' with hlt | hge
    · have hlt' : (j : Int) < m' := by omega
      have hj0 : (0 : Int) ≤ j := by omega
      obtain ⟨g, o, hA, hat⟩ := (HE.out.below HBQ.out).at_
      obtain rfl := hA (by omega)
      obtain ⟨x, hx, hr, hrd⟩ := hat j hlt
      have q1 := aggOk_mk hr (entCells_len _ _ _)
      have q2 := loadN_eq hr (entCells_len _ _ _)
      have qs := box_sto wr x.e x.rv x.pv hrd.one
      have HRD := Lib.hid hrd
      clear hA hat hr hrd hx
      go_upto_region 5 with (fail)
      generalize hwc : storeMid _ _ _ = wc
      obtain ⟨Ar, cr, hrv, _⟩ := HRD.out.raw
      obtain ⟨Ap, cp, hpv, _⟩ := HRD.out.peers
      have hbx := box_end hwc
      have c32 : wc.cell? ⟨wr.heap.size, 32, none⟩ = some (.slice Ar x.e.rn cr) := by rw [← hrv]; exact blk_ent_cell hbx.2 0
      have c33 : wc.cell? ⟨wr.heap.size, 33, none⟩ = some (.string x.e.snd) := blk_ent_cell hbx.2 1
      have c40 : wc.cell? ⟨wr.heap.size, 40, none⟩ = some (.slice Ap x.e.peers.length cp) := by rw [← hpv]; exact blk_ent_cell hbx.2 8
      have HBC := Lib.hid (HBQ.out.trans (hbx.1.mono hzq))
      clear hwc hbx q1 q2 qs hrv hpv HRD
      go_wp2_with fail
      go_roundw
      case rel => exact ⟨j + 1, _, by omega, by go_num, rfl, HBC.out⟩
      case measure => simp [intOf]; omega
    · obtain rfl : j = m' := by omega
      have hge' : ¬ (j : Int) < j := by omega
      go_wp2_with fail
      go_ret
      exact ⟨_, rfl, HBQ.out⟩

/-! ### the scene -/
theorem wpList_app_key2 {ops : Array Oper} {rest : List Oper} {o : Oper} {a : Act} {w : World} {Q : Exit → Act → World → Prop} (hgd : o.guard = none) (s x : Operand)
    (ho : o.op = .call { callee := .builtin .append, args := #[s, x], argTypes := #[23, 23] })
    (base : Nat) (v : Value) (ps : List Ky) (hs : a.eval s = v) (hown : OwnK w base v ps) (k : Ky)
    (hx : a.eval x = .slice (some ⟨w.heap.size, 0, none⟩) 1 1) (hn : ps.length ≤ 977343669106) (hbase : base ≤ w.heap.size)
    (h : ∀ v' w', OwnK w' base v' (ps ++ [k]) → w.grownBy w' v.ownBlock → wpList Try.prog ops Q rest (a.put o.dst v') w') :
    wpList Try.prog ops Q (o :: rest) a (w.alloc (.cells (bytesOf 32 k).toArray 41)) := by
  obtain ⟨i0, hi0, hz0, hz1, hz2⟩ := info_parts key_info
  have hown' : w.ownsRow base 41 32 v ps.length (keysOf ps) := hown
  refine app_own hgd s x _ ho base 41 i0 _ 32 32 Try.underlying23 hi0 hz0 hz1 hz2 rfl (by omega) v _ _ hs hown' (bytesOf 32 k) _ hx (bytesOf_length _ _) (bytesOf_one _ _) (by omega) (by omega) hbase ?_
  intro v' w' h1 h2
  refine h v' w' ?_ h2
  unfold OwnK
  rw [List.length_append, keysOf_append, keysOf_one]
  exact h1
theorem OwnK.draw {wr wr' : World} {base D : Nat} {v : Value} {ps : List Ky} (h : OwnK wr base v ps) (hD : D < base) (ho : Only (fun k => k = D) wr wr') : OwnK wr' base v ps := by
  have h1 : wr.ownsRow base 41 32 v ps.length (keysOf ps) := h
  exact owns_only h1 ho (fun g hg e => by have := (h1.lt g hg).1; omega)
/-- a list of keys grew -/
theorem EnS.grow {w : World} {B D n : Nat} {wr wr' : World} {v : Value} {l : List EItem} {N : Nat} (h : EnS w B D n wr v l N) (hB : B ≤ w.heap.size) {sv : Value} {ps : List Ky} (hs : OwnK wr w.heap.size sv ps) (hg : wr.grownBy wr' sv.ownBlock) : EnS w B D n wr' v l N := by
  have h2 : wr.ownsRow w.heap.size 41 32 sv ps.length (keysOf ps) := hs
  have ho := Only.of_grown hg
  have hnd : ∃ cs, Blk wr D 63 cs := by obtain ⟨_, _, _, _, hh, _⟩ := h.num; exact ⟨_, hh⟩
  obtain ⟨cs, hnd⟩ := hnd
  refine ⟨h.only.trans ho (fun k hk => .inr (h2.lt k hk).1), h.num.only ho (by have := h.only.size; omega) (fun k hk => by have := (h2.lt k hk).1; omega) (own_blk_ne h2 hnd (by decide)), ?_, fun x hx => ⟨(h.at_ x hx).1.only ho ?_ ?_, (h.at_ x hx).2⟩, h.dist⟩
  · have h1 : wr.ownsRow w.heap.size 47 41 v l.length (entsOf l) := h.own
    exact owns_only h1 ho (fun g e1 e2 => owns_ne2 h1 h2 (by decide) e1 e2)
  · exact fun g e1 e2 => owns_ne2 (h.at_ x hx).1.raw h2 (by decide) e1 e2
  · exact fun g e1 e2 => owns_ne2 (h.at_ x hx).1.peers h2 (by decide) e1 e2
theorem range_key {w : World} {g o : Nat} {e : Ent} {rv pv : Value} (h : w.rangeAt g o (entCells e rv pv)) : ∀ j u, (bytesOf 32 e.key)[j]? = some u → w.cell? ((⟨g, o, none⟩ : Addr).add j) = some u := by
  intro j u hu
  rw [add_flat]
  refine h j u ?_
  unfold entCells
  rw [List.getElem?_append_left (List.getElem?_eq_some_iff.1 hu).1]
  exact hu
theorem EnS.boxK {w : World} {B D n : Nat} {wr wr' : World} {v : Value} {l : List EItem} {N box : Nat} {cs : Array Value} (h : EnS w B D n wr v l N) (hB : B ≤ w.heap.size ∧ w.heap.size ≤ box) (hk : Blk wr box 41 cs) (hD : box ≠ D) (ho : Only (fun k => k = box) wr wr') : EnS w B D n wr' v l N := by
  refine ⟨h.only.trans ho (fun k hk => .inr (by omega)), h.num.only ho (by have := h.only.size; omega) (fun k hk => by omega) (fun e => hD e.symm), ?_, fun x hx => ⟨(h.at_ x hx).1.only ho ?_ ?_, (h.at_ x hx).2⟩, h.dist⟩
  · have h1 : wr.ownsRow w.heap.size 47 41 v l.length (entsOf l) := h.own
    exact owns_only h1 ho (fun g hg e => own_blk_ne h1 hk (by decide) (e ▸ hg))
  · exact fun g hg e => own_blk_ne (h.at_ x hx).1.raw hk (by decide) (e ▸ hg)
  · exact fun g hg e => own_blk_ne (h.at_ x hx).1.peers hk (by decide) (e ▸ hg)
def oneKey (b : UInt8) : Ky := fun j => if j = 0 then b else 0
theorem built_one (b : UInt8) : Try.prog.built 41 [(0, .int .u8 (b.toNat : Int))] = some (bytesOf 32 (oneKey b)).toArray := by kernel_rfl
def ScPost (w : World) (ed : Ending) (w' : World) : Prop := ∃ A m c l A' m' c' ps, ed = .returned (.tuple #[.slice A m c, .slice A' m' c']) ∧ Below w.heap.size w w' ∧ EntsAt w' A m c l ∧ KeysAt w' A' m' c' ps ∧ m ≤ 10 ∧ m' ≤ 6 ∧ (∀ x ∈ l, Good x.e) ∧ l.Pairwise (fun x y => keyEq x.e.key y.e.key = false)
def ScRel (w : World) (B D n : Nat) (v : Value) (l : List EItem) (s i : Value) (wr : World) : Prop := ∃ (q : Nat) (ps : List Ky) (N : Nat), i = .int .i64 (q : Int) ∧ ps.length + q ≤ 6 ∧ EnS w B D n wr v l N ∧ OwnK wr w.heap.size s ps ∧ N + 3 * q ≤ 330
set_option maxRecDepth 100000 in
set_option maxHeartbeats 4000000 in
attribute [local go_sem ↓] wp_load_k in
theorem scene_any (w : World) (A : Option Addr) (n c : Nat) (f : Nat → Int) (h : IntsAt w w.heap.size A n c f) :
    Calls Try.prog 9 #[.slice A n c] w (ScPost w) := by
  obtain ⟨i0, hi0, hz0, hz1, hz2⟩ := info_parts key_info
  have HI0 := Lib.hid hi0
  have HZ0 := Lib.hid hz0
  have HI := Lib.hid h
  clear h hi0 hz0
  go_enter Try.func9, Try.ntmps9
  go_wp2_with fail
  refine (from_any w w.heap.size n c A f HI.out (Nat.le_refl _)).mono ?_
  rintro ed w1 ⟨rfl, hb1, hs1, hn1⟩
  obtain ⟨D, hD⟩ : ∃ D, w.heap.size = D := ⟨_, rfl⟩
  have HB1 := Lib.hid hb1
  rw [hD] at hs1 hn1 HB1 ⊢
  have HN1 := Lib.hid hn1
  have HDD := Lib.hid hD
  obtain ⟨C, hC⟩ : ∃ C, w1.heap.size = C := ⟨_, rfl⟩
  rw [hC] at hs1
  have hDC : D < C := by omega
  have HCC := Lib.hid hC
  clear hb1 hs1 hn1 hD hC
  go_wp2_with fail
  refine (entries_any w1 D D n 0 HN1.out (by rw [HCC.out]; omega) (by omega)).mono ?_
  rintro ed w2 ⟨v, l, N2, rfl, hl10, hs2, hN2⟩
  have HS2 := Lib.hid hs2
  clear hs2
  go_wp2_with fail
  refine (next_any w2 D D n N2 7 HS2.out.num (by omega) (by omega) (by omega)).mono ?_
  rintro ed w3 ⟨x3, hx3, rfl, ho3, hsz3, hn3⟩
  have HS3 := Lib.hid (HS2.out.draw (by rw [HCC.out]; exact hDC) ho3 hn3)
  clear ho3 hsz3 hn3 HS2
  go_wp2_with fail
  go_loopw [6, 7] (fun s i wr => ScRel w1 D D n v l s i wr) (fun _ i _ => (intOf i).toNat)
  case atStart => exact ⟨x3, [], N2 + 1, rfl, by simp; omega, HS3.out, OwnK.nil _ _, by omega⟩
  case round =>
    obtain ⟨q, ps, N4, rfl, hpq, hs, ho, hN4⟩ := hrel
    have HS := Lib.hid hs
    have HO := Lib.hid ho
    clear hs ho
    rcases Nat.eq_zero_or_pos q with rfl | hq
    · obtain ⟨Av, cv, rfl, hev⟩ := HS.out.own.form HS.out.rd
      obtain ⟨As, cs, rfl, hks⟩ := HO.out.form
      have HEV := Lib.hid hev
      have HKS := Lib.hid hks
      clear hev hks
      go_wp2_with fail
      go_ret2
      refine ⟨Av, l.length, cv, l, As, ps.length, cs, ps, rfl, ?_, HEV.out, HKS.out, hl10, by omega, fun x hx => (HS.out.at_ x hx).2, HS.out.dist⟩
      have h1 := HB1.out
      have h2 := HDD.out
      subst h2
      exact Only.below_trans h1 HS.out.only (by rw [HCC.out]; omega) (fun k hk => by omega)
    · have hq0 : (0 : Int) < q := by omega
      obtain ⟨b, hb⟩ : ∃ b : UInt8, (b.toNat : Int) = q := ⟨UInt8.ofNat q, by rw [UInt8.toNat_ofNat', Nat.mod_eq_of_lt (by omega)]⟩
      have hw8 : IntKind.u8.wrap (q : Int) = (q : Int) := IntWalk.u8_in _ (by omega)
      have hbu := built_one b
      rw [hb] at hbu
      obtain ⟨kb, hkb⟩ : ∃ kb, oneKey b = kb := ⟨_, rfl⟩
      rw [hkb] at hbu
      have HBU := Lib.hid hbu
      have hgw : C ≤ wr.heap.size := by rw [← HCC.out]; exact HS.out.only.size
      clear hb hbu hkb
      go_upto_region 8 with (first
        | (refine wpList_buildL rfl 41 [(0, _)] rfl (bytesOf 32 kb).toArray ?_ ?_
           · refine Eq.trans (congrArg (Program.built _ _) (?_ : _ = [(0, .int .u8 (q : Int))])) HBU.out
             rfl)
        | (refine wpList_store_rowTo rfl 41 (.tmp 8) (.tmp 21) rfl rfl wr.heap.size (bytesOf 32 kb).toArray rfl rfl _ _ (heap_alloc_new _ _) (by rw [keyV_size]; kernel_rfl) (by rw [keyV_size]; kernel_rfl) (keyV_one _) ?_))
      generalize hwc : World.setRow _ _ _ = wc
      have hbk : Blk wc wr.heap.size 41 (bytesOf 32 kb).toArray := by rw [← hwc]; exact (setRow_same _ _ _ _ _ (heap_alloc_new _ _))
      have hbc : Below wr.heap.size wr wc := by rw [← hwc]; exact below_setRow ((Below.refl _ _).alloc (Nat.le_refl _) _) (Nat.le_refl _) _
      have HBK := Lib.hid hbk
      have HSC := Lib.hid (HS.out.below (by rw [HCC.out]; omega) hbc)
      have HOC := Lib.hid (HO.out.below hbc)
      obtain ⟨box, hbox⟩ : ∃ box, wr.heap.size = box := ⟨_, rfl⟩
      rw [hbox] at HBK hgw ⊢
      have hsvb := (show World.ownsRow wr w1.heap.size 41 32 _ ps.length (keysOf ps) from HO.out).lt
      rw [hbox] at hsvb
      have HSV := Lib.hid hsvb
      clear hwc hbk hbc hbox hsvb HS HO
      obtain ⟨Av, cv, rfl, hev⟩ := HSC.out.own.form HSC.out.rd
      have HEV := Lib.hid hev
      have hfl : ps.length ≤ 977343669106 := by omega
      clear hev
      rcases Nat.eq_zero_or_pos l.length with hl0 | hlp
      · have hl0' : ¬ (0 : Int) < (l.length : Int) := by omega
        have HBZ := HBK
        have HSZ := HSC
        have HOZ := HOC
        obtain ⟨kz, hkz⟩ : ∃ kz, kb = kz := ⟨_, rfl⟩
        rw [hkz] at HBZ
        obtain ⟨wz, hwz⟩ : ∃ wz, wc = wz := ⟨_, rfl⟩
        rw [hwz] at HBZ HSZ HOZ ⊢
        have hN5 : N4 + 3 * (q - 1) ≤ 330 := by omega
        clear hwz hkz HBK HSC HOC
        have s1 := keyOk_mk (blk_key HBZ.out)
        have s2 := loadK_eq (blk_key HBZ.out)
        have hsz : w1.heap.size ≤ wz.heap.size := HSZ.out.only.size
        go_wp2_with (first
          | (refine wpList_buildSlice rfl 23 41 1 _ rfl (bytesOf 32 kz).toArray i0 _ Try.underlying23 HI0.out HZ0.out (by rw [hz1]; omega) (by rw [hz1]; omega) (by simp only [List.map_toArray, List.map_cons, List.map_nil]; exact key_fill kz i0 hz1) ?_)
          | (at_builtin
             refine wpList_app_key2 rfl (.tmp 38) (.tmp 40) rfl w1.heap.size _ _ rfl HOZ.out kz rfl hfl hsz ?_
             intro v7 w7 ho7 hg7
             have HS7 := Lib.hid (HSZ.out.grow (by rw [HCC.out]; omega) HOZ.out hg7)
             have HO7 := Lib.hid ho7
             clear ho7 hg7))
        go_roundw
        case rel => exact ⟨q - 1, ps ++ [kz], N4, by go_num, by rw [List.length_append]; show ps.length + 1 + (q - 1) ≤ 6; omega, (by have h7 := HS7.out; rw [hl0] at h7; exact h7), HO7.out, by omega⟩
        case measure => simp [intOf]; omega
      · have hl0' : (0 : Int) < (l.length : Int) := by omega
        go_wp2_with fail
        refine (next_any wc D D n N4 4 HSC.out.num (by omega) (by omega) (by omega)).mono ?_
        rintro ed w5 ⟨x5, hx5, rfl, ho5, hsz5, hn5⟩
        have HS5 := Lib.hid (HSC.out.draw (by rw [HCC.out]; exact hDC) ho5 hn5)
        have HO5 := Lib.hid (HOC.out.draw (by rw [HCC.out]; exact hDC) ho5)
        have HBK5 := Lib.hid (HBK.out.only ho5 (by omega))
        have HE5 := Lib.hid (HS5.out.own.form HS5.out.rd)
        clear ho5 hsz5 hn5 HBK HSC HOC
        rcases Nat.eq_zero_or_pos x5 with rfl | hx5p
        · have HBZ := HBK5
          have HSZ := HS5
          have HOZ := HO5
          obtain ⟨kz, hkz⟩ : ∃ kz, kb = kz := ⟨_, rfl⟩
          rw [hkz] at HBZ
          obtain ⟨wz, hwz⟩ : ∃ wz, w5 = wz := ⟨_, rfl⟩
          rw [hwz] at HBZ HSZ HOZ ⊢
          have hN5 : N4 + 1 + 3 * (q - 1) ≤ 330 := by omega
          clear hwz hkz HBK5 HS5 HO5 HE5
          have s1 := keyOk_mk (blk_key HBZ.out)
          have s2 := loadK_eq (blk_key HBZ.out)
          have hsz : w1.heap.size ≤ wz.heap.size := HSZ.out.only.size
          go_wp2_with (first
            | (refine wpList_buildSlice rfl 23 41 1 _ rfl (bytesOf 32 kz).toArray i0 _ Try.underlying23 HI0.out HZ0.out (by rw [hz1]; omega) (by rw [hz1]; omega) (by simp only [List.map_toArray, List.map_cons, List.map_nil]; exact key_fill kz i0 hz1) ?_)
            | (at_builtin
               refine wpList_app_key2 rfl (.tmp 38) (.tmp 40) rfl w1.heap.size _ _ rfl HOZ.out kz rfl hfl hsz ?_
               intro v7 w7 ho7 hg7
               have HS7 := Lib.hid (HSZ.out.grow (by rw [HCC.out]; omega) HOZ.out hg7)
               have HO7 := Lib.hid ho7
               clear ho7 hg7))
          go_roundw
          case rel => exact ⟨q - 1, ps ++ [kz], (N4 + 1), by go_num, by rw [List.length_append]; show ps.length + 1 + (q - 1) ≤ 6; omega, HS7.out, HO7.out, by omega⟩
          case measure => simp [intOf]; omega
        · have hx5' : (0 : Int) < (x5 : Int) := by omega
          go_wp2_with fail
          refine (next_any w5 D D n (N4 + 1) l.length HS5.out.num hlp (by omega) (by omega)).mono ?_
          rintro ed w6 ⟨x6, hx6, rfl, ho6, hsz6, hn6⟩
          have HS6 := Lib.hid (HS5.out.draw (by rw [HCC.out]; exact hDC) ho6 hn6)
          have HO6 := Lib.hid (HO5.out.draw (by rw [HCC.out]; exact hDC) ho6)
          have hbk6 := HBK5.out.only ho6 (by omega)
          have HBK6 := Lib.hid hbk6
          clear ho6 hsz6 hn6 HBK5 HS5 HO5 HE5
          obtain ⟨Av6, cv6, hv6, hev6⟩ := HS6.out.own.form HS6.out.rd
          injection hv6 with e1 e2 e3
          subst e1 e3
          obtain ⟨g, o, hA, hat⟩ := hev6.at_
          obtain rfl := hA hlp
          obtain ⟨y, hy, hr, hrd⟩ := hat x6 hx6
          obtain ⟨ky, hky⟩ : ∃ ky, y.e.key = ky := ⟨_, rfl⟩
          have hrk := range_key hr
          rw [hky] at hrk
          have r1 := keyOk_mk hrk
          have r2 := loadK_eq hrk
          have hx6' : (x6 : Int) < (l.length : Int) := by omega
          have hx60 : (0 : Int) ≤ (x6 : Int) := by omega
          clear hev6 hA hat hy hr hrd hky hrk
          go_upto_region 10 with (refine wpList_store_rowTo rfl 41 (.tmp 8) (.tmp 37) rfl rfl box (bytesOf 32 ky).toArray rfl rfl _ _ hbk6 (by rw [keyV_size]; kernel_rfl) (by rw [keyV_size, keyV_size]) (keyV_one _) ?_)
          generalize hwz : World.setRow _ _ _ = wz
          have oz : Only (fun k => k = box) w6 wz := by rw [← hwz]; exact (Only.refl (fun k => k = box) w6).setRow_ (.inl rfl) _
          have hbz : Blk wz box 41 (bytesOf 32 ky).toArray := by rw [← hwz]; exact setRow_same _ _ _ _ _ hbk6
          obtain ⟨kz, hkz⟩ : ∃ kz, ky = kz := ⟨_, rfl⟩
          rw [hkz] at hbz
          have HBZ := Lib.hid hbz
          have HSZ := Lib.hid (HS6.out.boxK (by rw [HCC.out]; omega) hbk6 (by omega) oz)
          have HOZ : Hid (OwnK wz w1.heap.size _ ps) := Lib.hid (owns_only (show w6.ownsRow w1.heap.size 41 32 _ ps.length (keysOf ps) from HO6.out) oz (fun g hg e => by have := (HSV.out g hg).2; omega))
          have hN5 : N4 + 1 + 1 + 3 * (q - 1) ≤ 330 := by omega
          clear hwz oz hbz hkz hbk6 HBK6 HS6 HO6 r1 r2
          have s1 := keyOk_mk (blk_key HBZ.out)
          have s2 := loadK_eq (blk_key HBZ.out)
          have hsz : w1.heap.size ≤ wz.heap.size := HSZ.out.only.size
          go_wp2_with (first
            | (refine wpList_buildSlice rfl 23 41 1 _ rfl (bytesOf 32 kz).toArray i0 _ Try.underlying23 HI0.out HZ0.out (by rw [hz1]; omega) (by rw [hz1]; omega) (by simp only [List.map_toArray, List.map_cons, List.map_nil]; exact key_fill kz i0 hz1) ?_)
            | (at_builtin
               refine wpList_app_key2 rfl (.tmp 38) (.tmp 40) rfl w1.heap.size _ _ rfl HOZ.out kz rfl hfl hsz ?_
               intro v7 w7 ho7 hg7
               have HS7 := Lib.hid (HSZ.out.grow (by rw [HCC.out]; omega) HOZ.out hg7)
               have HO7 := Lib.hid ho7
               clear ho7 hg7))
          go_roundw
          case rel => exact ⟨q - 1, ps ++ [kz], (N4 + 1 + 1), by go_num, by rw [List.length_append]; show ps.length + 1 + (q - 1) ≤ 6; omega, HS7.out, HO7.out, by omega⟩
          case measure => simp [intOf]; omega
end Go.Proofs.Ytoamjdjmfhdaeaa
