/- mempoolmake.Entries. -/
import Derived.Test.YtoamjdjmfhdaeaaGosD
import Derived.Deep.RegionHeld3
namespace Go.Proofs.Ytoamjdjmfhdaeaa
open Go.RowKit
set_option linter.unusedVariables false
set_option linter.unusedSimpArgs false
open ShaW Sha

/-- an entry whose key belongs to its few bytes -/
structure Good (e : Ent) : Prop where
  rn : e.rn ≤ 8
  pn : e.peers.length ≤ 2
  key : e.key = sha e.rn e.raw
structure EnS (w : World) (B D n : Nat) (wr : World) (v : Value) (l : List EItem) (N : Nat) : Prop where
  only : Only (fun k => k = D) w wr
  num : NumAt wr B D n N
  own : OwnE wr w.heap.size v l
  at_ : ∀ x ∈ l, EntAt wr w.heap.size x.e x.rv x.pv ∧ Good x.e
  dist : l.Pairwise (fun x y => keyEq x.e.key y.e.key = false)
theorem EnS.below {w : World} {B D n : Nat} {wr wr' : World} {v : Value} {l : List EItem} {N : Nat} (h : EnS w B D n wr v l N) (hB : B ≤ w.heap.size) (hb : Below wr.heap.size wr wr') : EnS w B D n wr' v l N :=
  ⟨h.only.trans (Only.of_below (fun k => k = D) hb) (fun k hk => .inl hk), h.num.only (Only.of_below (fun _ => False) hb) (by have := h.only.size; omega) (fun _ h => h.elim) (fun h => h), h.own.below hb, fun x hx => ⟨(h.at_ x hx).1.below hb, (h.at_ x hx).2⟩, h.dist⟩
theorem EnS.draw {w : World} {B D n : Nat} {wr wr' : World} {v : Value} {l : List EItem} {N N' : Nat} (h : EnS w B D n wr v l N) (hD : D < w.heap.size) (ho : Only (fun k => k = D) wr wr') (hn : NumAt wr' B D n N') : EnS w B D n wr' v l N' := by
  have hne : ∀ {k : Nat}, w.heap.size ≤ k → ¬ k = D := fun h e => by omega
  refine ⟨h.only.trans ho (fun k hk => .inl hk), hn, ?_, fun x hx => ⟨(h.at_ x hx).1.only ho ?_ ?_, (h.at_ x hx).2⟩, h.dist⟩
  · have h1 : wr.ownsRow w.heap.size 47 41 v l.length (entsOf l) := h.own
    exact owns_only h1 ho (fun g hg => hne (h1.lt g hg).1)
  · exact fun g hg => hne ((h.at_ x hx).1.raw.lt g hg).1
  · exact fun g hg => hne ((h.at_ x hx).1.peers.lt g hg).1
theorem EnS.box {w : World} {B D n : Nat} {wr wr' : World} {v : Value} {l : List EItem} {N box : Nat} {cs : Array Value} (h : EnS w B D n wr v l N) (hB : B ≤ w.heap.size ∧ w.heap.size ≤ box) (hk : Blk wr box 47 cs) (hv : v.ownBlock ≠ some box) (hD : box ≠ D) (ho : Only (fun k => k = box) wr wr') : EnS w B D n wr' v l N := by
  refine ⟨h.only.trans ho (fun k hk => .inr (by omega)), h.num.only ho (by have := h.only.size; omega) (fun k hk => by omega) (fun e => hD e.symm), ?_, fun x hx => ⟨(h.at_ x hx).1.only ho ?_ ?_, (h.at_ x hx).2⟩, h.dist⟩
  · have h1 : wr.ownsRow w.heap.size 47 41 v l.length (entsOf l) := h.own
    exact owns_only h1 ho (fun g hg e => hv (e ▸ hg))
  · exact fun g hg e => own_blk_ne (h.at_ x hx).1.raw hk (by decide) (e ▸ hg)
  · exact fun g hg e => own_blk_ne (h.at_ x hx).1.peers hk (by decide) (e ▸ hg)
theorem EnS.rd {w : World} {B D n : Nat} {wr : World} {v : Value} {l : List EItem} {N : Nat} (h : EnS w B D n wr v l N) : ∀ x ∈ l, EntSee wr x.e x.rv x.pv := fun x hx => (h.at_ x hx).1.rd.see
/-- an entry more -/
theorem EnS.push {w : World} {B D n : Nat} {wr wr' : World} {v v' : Value} {l : List EItem} {N : Nat} (h : EnS w B D n wr v l N) (hB : B ≤ w.heap.size) (hD : D < w.heap.size) (y : EItem) (hy : EntAt wr w.heap.size y.e y.rv y.pv) (hg : Good y.e) (hd : hasK (entKeys l) y.e.key = false)
    (hgr : wr.grownBy wr' v.ownBlock) (hown : OwnE wr' w.heap.size v' (l ++ [y])) : EnS w B D n wr' v' (l ++ [y]) N := by
  have h1 : wr.ownsRow w.heap.size 47 41 v l.length (entsOf l) := h.own
  have ho := Only.of_grown hgr
  have hkeep : ∀ x : EItem, EntAt wr w.heap.size x.e x.rv x.pv → EntAt wr' w.heap.size x.e x.rv x.pv := fun x hx =>
    hx.only ho (fun g e1 e2 => owns_ne2 hx.raw h1 (by decide) e1 e2) (fun g e1 e2 => owns_ne2 hx.peers h1 (by decide) e1 e2)
  have hnd : ∃ cs, Blk wr D 63 cs := by obtain ⟨_, _, _, _, hh, _⟩ := h.num; exact ⟨_, hh⟩
  obtain ⟨cs, hnd⟩ := hnd
  refine ⟨h.only.trans ho (fun k hk => .inr (h1.lt k hk).1), h.num.only ho (by have := h.only.size; omega) (fun k hk => by have := (h1.lt k hk).1; omega) (own_blk_ne h1 hnd (by decide)), hown, fun x hx => ?_, ?_⟩
  · rcases List.mem_append.1 hx with hx | hx
    · exact ⟨hkeep x (h.at_ x hx).1, (h.at_ x hx).2⟩
    · obtain rfl := List.mem_singleton.1 hx
      exact ⟨hkeep _ hy, hg⟩
  · rw [List.pairwise_append]
    refine ⟨h.dist, List.pairwise_singleton _ _, fun a ha b hb => ?_⟩
    obtain rfl := List.mem_singleton.1 hb
    unfold hasK entKeys at hd
    rw [List.any_map, List.any_eq_false] at hd
    have := hd a ha
    simpa using this
def EnRel (w : World) (B D n N0 : Nat) (v i : Value) (wr : World) : Prop := ∃ (q : Nat) (l : List EItem) (N : Nat), i = .int .i64 (q : Int) ∧ l.length + q ≤ 10 ∧ EnS w B D n wr v l N ∧ N + 30 * q ≤ N0 + 301
def EnPost (w : World) (B D n N0 : Nat) (ed : Ending) (w' : World) : Prop := ∃ (v : Value) (l : List EItem) (N : Nat), ed = .returned v ∧ l.length ≤ 10 ∧ EnS w B D n w' v l N ∧ N ≤ N0 + 301
theorem entCells_setO (e : Ent) (rv pv : Value) (z : Int) : ((entCells e rv pv).toArray.setIfInBounds 39 (.int .i64 z)) = (entCells { e with ord := z } rv pv).toArray := by
  unfold entCells
  rw [List.setIfInBounds_toArray]
  congr 1
set_option maxRecDepth 100000 in
set_option maxHeartbeats 4000000 in
attribute [local go_sem ↓] wp_load_k wp_load_ent wp_store_ent in
theorem entries_any (w : World) (B D n N : Nat) (h : NumAt w B D n N) (hB : B ≤ w.heap.size) (hN : N ≤ 1000000) :
    Calls Try.prog 21 #[.pointer (some ⟨D, 0, none⟩), .int .i64 10] w (EnPost w B D n N) := by
  obtain ⟨i0, hi0, hz0, hz1, hz2⟩ := info_parts ent_info
  have HI0 := Lib.hid hi0
  have HZ0 := Lib.hid hz0
  have HN0 := Lib.hid h
  have hDw := h.lt
  clear h hi0 hz0
  go_enter Try.func21, Try.ntmps21
  go_wp2_with fail
  refine (next_any w B D n N 11 HN0.out (by omega) (by omega) (by omega)).mono ?_
  rintro ed w0 ⟨x0, hx0, rfl, ho0, hsz0, hn0⟩
  have HS0 : Hid (EnS w B D n w0 (.slice none 0 0) [] (N + 1)) := Lib.hid ⟨ho0, hn0, OwnE.nil _ _, fun x hx => (by cases hx), List.Pairwise.nil⟩
  clear ho0 hn0 hsz0
  go_wp2_with fail
  go_loopw [5, 6] (fun v i wr => EnRel w B D n N v i wr) (fun _ i _ => (intOf i).toNat)
  case atStart => exact ⟨x0, [], N + 1, rfl, by simp; omega, HS0.out, by omega⟩
  case round =>
    obtain ⟨q, l, N1, rfl, hlq, hs, hN1⟩ := hrel
    have HS := Lib.hid hs
    clear hs
    rcases Nat.eq_zero_or_pos q with rfl | hq
    · go_wp2_with fail
      go_ret
      exact ⟨_, l, N1, rfl, by omega, HS.out, by omega⟩
    · have hq0 : (0 : Int) < q := by omega
      go_wp2_with fail
      refine (mkEntry_any wr B D n N1 HS.out.num (by have := HS.out.only.size; omega) (by omega)).mono ?_
      rintro ed w1 ⟨e, rv, pv, N2, rfl, ho1, hn1, hNa, hNb, hea, hmd⟩
      have HS1 := Lib.hid (HS.out.draw hDw ho1 hn1)
      have HEA := Lib.hid (hea.less (base' := w.heap.size) HS.out.only.size)
      have HMD := Lib.hid hmd
      have qs := box_sto w1 e rv pv hea.one
      have hvb := (show World.ownsRow w1 w.heap.size 47 41 _ l.length (entsOf l) from HS1.out.own).lt
      clear ho1 hn1 hea hmd
      go_upto_region 6 with (fail)
      generalize hwa : storeMid _ _ _ = w2
      have hbx := box_end hwa
      have HS2 := Lib.hid (HS1.out.below hB hbx.1)
      have HEA2 := Lib.hid (HEA.out.below hbx.1)
      have HBX := Lib.hid hbx.2
      have hlb := hbx.2.lt
      have hbase := HS1.out.only.size
      obtain ⟨box, hbox⟩ : ∃ box, w1.heap.size = box := ⟨_, rfl⟩
      rw [hbox] at HBX hlb hbase hvb ⊢
      clear hwa hbx qs hbox
      obtain ⟨Av, cv, rfl, hev⟩ := HS2.out.own.form HS2.out.rd
      have HE := Lib.hid hev
      have HLE := Lib.hid hev.len
      obtain ⟨M, hM⟩ : ∃ M, l.length = M := ⟨_, rfl⟩
      have hM10 : M + q ≤ 10 := by omega
      rw [hM] at HE HS2 HLE hvb ⊢
      have HVB := Lib.hid hvb
      clear hvb
      have HMM := Lib.hid hM
      clear hev hM HS HS1 HEA
      obtain ⟨kk, hkx⟩ : ∃ kk, e.key = kk := ⟨_, rfl⟩
      have HKX := Lib.hid hkx
      have hK2 := blk_ent_key HBX.out
      rw [hkx] at hK2
      have HKC := Lib.hid hK2
      clear hkx hK2
      go_wp2_with fail
      go_loopw [8, 23] (fun s i wq => ∃ j : Nat, j ≤ M ∧ i = .int .i64 (j : Int) ∧ Below w2.heap.size w2 wq ∧ s = .bool (hasK ((entKeys l).take j) kk)) (fun _ i _ => M - (intOf i).toNat)
      case atStart => exact ⟨0, by omega, rfl, Below.refl _ _, rfl⟩
      case round =>
        obtain ⟨j, hj, rfl, hbq, rfl⟩ := hrel
        have HBQ := Lib.hid hbq
        have hzq := hbq.size
        clear hbq
        rcases Nat.lt_or_ge j M with hlt | hge
        · have hlt' : (j : Int) < M := by omega
          have hj0 : (0 : Int) ≤ j := by omega
          obtain ⟨g, o, hA, hat⟩ := (HE.out.below HBQ.out).at_
          obtain rfl := hA (by omega)
          obtain ⟨x, hx, hr, hrd⟩ := hat j hlt
          have hkk : (entKeys l)[j]? = some x.e.key := by unfold entKeys; rw [List.getElem?_map, hx]; rfl
          have HKK := Lib.hid hkk
          have q1 := aggOk_mk hr (entCells_len _ _ _)
          have q2 := loadN_eq hr (entCells_len _ _ _)
          have qs := box_sto wr x.e x.rv x.pv hrd.one
          obtain ⟨k1, hk1⟩ : ∃ k1, x.e.key = k1 := ⟨_, rfl⟩
          rw [hk1] at HKK
          obtain ⟨b, hb⟩ : ∃ b, hasK ((entKeys l).take j) kk = b := ⟨_, rfl⟩
          rw [hb]
          have HBB := Lib.hid hb
          clear hA hat hkk hr hrd hx hb
          go_upto_region 10 with (fail)
          generalize hwc : storeMid _ _ _ = wc
          have hby := box_end hwc
          have hkc := blk_ent_key hby.2
          rw [hk1] at hkc
          have r1 := keyOk_mk hkc
          have r2 := loadK_eq hkc
          have hbw := HBQ.out.trans (hby.1.mono hzq)
          have hkd : ∀ i u, (bytesOf 32 kk)[i]? = some u → wc.cell? ((⟨box, 0, none⟩ : Addr).add i) = some u := fun i u hu => (hbw.cell (p := (⟨box, 0, none⟩ : Addr).add i) (World.block_lt_of_cell? w2 _ (HKC.out i u hu))).trans (HKC.out i u hu)
          have r3 := keyOk_mk hkd
          have r4 := loadK_eq hkd
          have HBW := Lib.hid hbw
          have heq := fun W => run_keyEq W k1 kk
          obtain ⟨b2, hb2⟩ : ∃ b2, keyEq k1 kk = b2 := ⟨_, rfl⟩
          rw [hb2] at heq
          have HB2 := Lib.hid hb2
          have hns : hasK ((entKeys l).take (j + 1)) kk = (b || b2) := by rw [take_snoc HKK.out, hasK_snoc, HBB.out, hb2]
          have HNS := Lib.hid hns
          clear hwc hby hkc hbw hkd hb2 hns q1 q2 qs
          rcases b with _ | _
          · go_wp2_with fail
            go_roundw
            case rel => exact ⟨j + 1, by omega, by go_num, HBW.out, by rw [HNS.out]; rfl⟩
            case measure => simp [intOf]; omega
          · go_wp2_with fail
            go_roundw
            case rel => exact ⟨j + 1, by omega, by go_num, HBW.out, by rw [HNS.out]; rfl⟩
            case measure => simp [intOf]; omega
        · obtain rfl : j = M := by omega
          have hge' : ¬ (j : Int) < j := by omega
          have hall : (entKeys l).take j = entKeys l := List.take_of_length_le (by rw [entKeys_len, HMM.out]; omega)
          rw [hall]
          have HSR := Lib.hid (HS2.out.below hB HBQ.out)
          have HEAR := Lib.hid (HEA2.out.below HBQ.out)
          have HBR := Lib.hid (HBX.out.below HBQ.out HBX.out.lt)
          have hlr := HBR.out.lt
          obtain ⟨b, hb⟩ : ∃ b, hasK (entKeys l) kk = b := ⟨_, rfl⟩
          rw [hb]
          have HBB := Lib.hid hb
          clear hall hb HS2 HEA2 HE HKC HBX
          rcases b with _ | _
          · go_upto_region 13 with (fail)
            have o39 : 0 ≤ e.ord ∧ e.ord ≤ 1000 := HMD.out.ord
            obtain ⟨z, hz⟩ : ∃ z, e.ord = z := ⟨_, rfl⟩
            rw [hz] at o39
            have y39 : wr.cell? ⟨box, 39, none⟩ = some (.int .i64 z) := by rw [← hz]; exact blk_ent_cell HBR.out 7
            clear hz
            have hDb : box ≠ D := by omega
            have hbs := HSR.out.only.size
            have HND : Hid (NumAt wr.drew B D n N2) := Lib.hid HSR.out.num
            have HNX : Hid (Calls Try.prog 22 #[.pointer (some ⟨D, 0, none⟩), .int .i64 2] wr.drew (NextPost wr.drew B D n N2 2)) := Lib.hid (next_any wr.drew B D n N2 2 HND.out (by omega) (by omega) (by omega))
            refine wp_region_noPanic ?_
            refine wp_region_held_drew (S := fun _ => True) (by kernel_rfl) trivial (fun hHeld => ?_)
            refine wpAnyH_take (i := 0) (oi := ⟨some 38, _, _, _, _, _⟩) (v := ?_) rfl (by kernel_rfl) (by kernel_rfl) (by kernel_rfl) (fun _ _ _ h => h) (Or.inl ⟨by kernel_rfl, ?_⟩) hHeld ?_
            rotate_left
            · intro w hSw
              (try dsimp only at hSw)
              go_simp
              all_goals (with_reducible rfl)
            conv => arg 8; simp only [Act.put, List.setIfInBounds_toArray, List.set_cons_zero, List.set_cons_succ]
            refine wpAnyH_take (i := 2) (oi := ⟨some 40, _, _, _, _, _⟩) (v := ?_) rfl (by kernel_rfl) (by kernel_rfl) (by kernel_rfl) (fun _ _ _ h => h) (Or.inl ⟨by kernel_rfl, ?_⟩) hHeld ?_
            rotate_left
            · intro w hSw
              (try dsimp only at hSw)
              go_simp
              all_goals (with_reducible rfl)
            conv => arg 8; simp only [Act.put, List.setIfInBounds_toArray, List.set_cons_zero, List.set_cons_succ]
            refine wpAnyH_take (i := 3) (oi := ⟨some 41, _, _, _, _, _⟩) (v := ?_) rfl (by kernel_rfl) (by kernel_rfl) (by kernel_rfl) (fun _ _ _ h => h) (Or.inl ⟨by kernel_rfl, ?_⟩) hHeld ?_
            rotate_left
            · intro w hSw
              (try dsimp only at hSw)
              go_simp
              all_goals (with_reducible rfl)
            conv => arg 8; simp only [Act.put, List.setIfInBounds_toArray, List.set_cons_zero, List.set_cons_succ]
            refine wpAnyH_take (i := 4) (oi := ⟨some 42, _, _, _, _, _⟩) (v := ?_) rfl (by kernel_rfl) (by kernel_rfl) (by kernel_rfl) (fun _ _ _ h => h) (Or.inl ⟨by kernel_rfl, ?_⟩) hHeld ?_
            rotate_left
            · intro w hSw
              (try dsimp only at hSw)
              go_simp
              all_goals (with_reducible rfl)
            conv => arg 8; simp only [Act.put, List.setIfInBounds_toArray, List.set_cons_zero, List.set_cons_succ]
            refine wpAnyH_ready (rs := [1, 5]) (by kernel_rfl) (by simp) ?_
            refine AllReadyH.cons (o := ⟨some 39, _, _, _, _, _⟩) rfl (fun K hK => ?_) (AllReadyH.cons (o := ⟨some 43, _, _, _, _, _⟩) rfl (fun K hK => ?_) AllReadyH.nil)
            · go_simp
              refine hK.out _ _ trivial (fun hHeld => ?_)
              clear hK K
              conv => arg 8; simp only [Act.put, List.setIfInBounds_toArray, List.set_cons_zero, List.set_cons_succ]
              refine wpAnyH_ready (rs := [5]) (by kernel_rfl) (by simp) ?_
              refine AllReadyH.cons (o := ⟨some 43, _, _, _, _, _⟩) rfl (fun K hK => ?_) AllReadyH.nil
              go_simp
              go_at_call 22
              (with_reducible refine (HNX.out).mono ?_)
              rintro ed4 w4 ⟨x4, hx4, rfl, ho4, hsz4, hn4⟩
              have oa : Only (fun k => k = D) wr w4 := (Only.of_below (fun k => k = D) (below_drewN (Below.refl _ wr) 1)).trans ho4 (fun k hk => .inl hk)
              have HS4 := Lib.hid (HSR.out.draw hDw oa hn4)
              have HBX4 := Lib.hid (HBR.out.only oa hDb)
              have hEA4 : EntAt w4 w.heap.size e rv pv := HEAR.out.only oa (fun g hg => by have := (HEAR.out.raw.lt g hg).1; omega) (fun g hg => by have := (HEAR.out.peers.lt g hg).1; omega)
              have HEA4 := Lib.hid hEA4
              have z39 : w4.cell? ⟨box, 39, none⟩ = some (.int .i64 z) := (oa.cell (p := ⟨box, 39, none⟩) HBR.out.lt hDb).trans y39
              have f39 := HBX4.out.frozen 39
              have hmul : (j : Int) * (x4 : Int) = 0 ∨ (j : Int) * (x4 : Int) = j := by
                rcases (show x4 = 0 ∨ x4 = 1 by omega) with rfl | rfl
                · left; simp
                · right; simp
              obtain ⟨pr, hpr⟩ : ∃ pr, (j : Int) * (x4 : Int) = pr := ⟨_, rfl⟩
              rw [hpr] at hmul
              have g1 : IntKind.i64.wrap pr = pr := IntWalk.i64_in _ (by omega)
              have g2 : IntKind.i64.wrap (z + pr) = z + pr := IntWalk.i64_in _ (by omega)
              clear hn4 ho4 hsz4 oa hEA4
              refine hK.out _ _ trivial (fun hHeld => ?_)
              clear hK K
              conv => arg 8; simp only [Act.put, List.setIfInBounds_toArray, List.set_cons_zero, List.set_cons_succ]
              refine wpAnyH_take (i := 6) (oi := ⟨some 44, _, _, _, _, _⟩) (v := ?_) rfl (by kernel_rfl) (by kernel_rfl) (by kernel_rfl) (fun _ _ _ h => h) (Or.inl ⟨by kernel_rfl, ?_⟩) hHeld ?_
              rotate_left
              · intro w hSw
                (try dsimp only at hSw)
                go_simp
                all_goals (with_reducible rfl)
              conv => arg 8; simp only [Act.put, List.setIfInBounds_toArray, List.set_cons_zero, List.set_cons_succ]
              refine wpAnyH_take (i := 7) (oi := ⟨some 45, _, _, _, _, _⟩) (v := ?_) rfl (by kernel_rfl) (by kernel_rfl) (by kernel_rfl) (fun _ _ _ h => h) (Or.inl ⟨by kernel_rfl, ?_⟩) hHeld ?_
              rotate_left
              · intro w hSw
                (try dsimp only at hSw)
                go_simp
                all_goals (with_reducible rfl)
              conv => arg 8; simp only [Act.put, List.setIfInBounds_toArray, List.set_cons_zero, List.set_cons_succ]
              refine wpAnyH_take (i := 8) (oi := ⟨some 46, _, _, _, _, _⟩) (v := ?_) rfl (by kernel_rfl) (by kernel_rfl) (by kernel_rfl) (fun _ _ _ h => h) (Or.inl ⟨by kernel_rfl, ?_⟩) hHeld ?_
              rotate_left
              · intro w hSw
                (try dsimp only at hSw)
                go_simp
                all_goals (with_reducible rfl)
              conv => arg 8; simp only [Act.put, List.setIfInBounds_toArray, List.set_cons_zero, List.set_cons_succ]
              refine wpAnyH_ready (rs := [9]) (by kernel_rfl) (by simp) ?_
              refine AllReadyH.cons (o := ⟨none, _, _, _, _, _⟩) rfl (fun K hK => ?_) AllReadyH.nil
              go_simp
              generalize hw7 : World.setCell _ _ _ = w7
              have hb7 : Blk w7 box 47 (entCells { e with ord := z + pr } rv pv).toArray := by
                rw [← hw7]
                have h1 := HBX4.out.set_ 39 (.int .i64 (z + pr))
                rw [entCells_setO] at h1
                exact h1
              have o7 : Only (fun k => k = box) w4 w7 := by rw [← hw7]; exact (Only.refl (fun k => k = box) w4).setCell_ (p := ⟨box, 39, none⟩) (.inl rfl) _
              have hs7 := HS4.out.box (by omega) HBX4.out (fun e => by have := (HVB.out _ e).2; omega) hDb o7
              have hea7 : EntAt w7 w.heap.size { e with ord := z + pr } rv pv := (show EntAt w4 w.heap.size { e with ord := z + pr } rv pv from ⟨HEA4.out.raw, HEA4.out.peers⟩).only o7 (fun g e1 e2 => own_blk_ne HEA4.out.raw HBX4.out (by decide) (e2 ▸ e1)) (fun g e1 e2 => own_blk_ne HEA4.out.peers HBX4.out (by decide) (e2 ▸ e1))
              have HB7 := Lib.hid hb7
              have HS7 := Lib.hid hs7
              have HEA7 := Lib.hid hea7
              clear hw7 hb7 o7 z39 f39 hs7 hea7
              refine hK.out _ _ trivial (fun hHeld => ?_)
              clear hK K
              conv => arg 8; simp only [Act.put, List.setIfInBounds_toArray, List.set_cons_zero, List.set_cons_succ]
              refine wpAnyH_done (by kernel_rfl) ?_ _
              refine NoPanic.normal ?_
              clear hHeld y39 hmul g1 g2 hpr hDb
              obtain ⟨e7, he7⟩ : ∃ e7, ({ e with ord := z + pr } : Ent) = e7 := ⟨_, rfl⟩
              have hg7 : Good e7 := by rw [← he7]; exact ⟨HMD.out.rn, HMD.out.pn, HMD.out.key⟩
              have hk7 : hasK (entKeys l) e7.key = false := by
                rw [← he7]
                show hasK (entKeys l) e.key = false
                rw [HKX.out]; exact HBB.out
              rw [he7] at HB7 HEA7
              have HG7 := Lib.hid hg7
              have HK7 := Lib.hid hk7
              clear he7 hg7 hk7
              have s1 := aggOk_mk (blk_ent_range HB7.out) (entCells_len _ _ _)
              have s2 := loadN_eq (blk_ent_range HB7.out) (entCells_len _ _ _)
              have hown7 := HS7.out.own
              have HOWN7 := Lib.hid hown7
              have hfl : l.length ≤ 977343669106 := by rw [HMM.out]; omega
              have hsz7 := HS7.out.only.size
              clear hown7
              go_wp2_with (first
                | (refine wpList_buildSlice rfl 22 47 1 _ rfl (entCells e7 rv pv).toArray i0 _ Try.underlying22 HI0.out HZ0.out (by rw [hz1]; omega) (by rw [hz1]; omega) (by simp only [List.map_toArray, List.map_cons, List.map_nil]; exact ent_fill2 HEA7.out.rd.see i0 hz1) ?_)
                | (at_builtin
                   refine wpList_app_ent rfl (.tmp 47) (.tmp 49) rfl w.heap.size _ _ rfl HOWN7.out ⟨e7, rv, pv⟩ HEA7.out.rd.one rfl hfl hsz7 ?_
                   intro v3 w3 ho3 hb3 hg3
                   have HS3 := Lib.hid (HS7.out.push hB hDw ⟨e7, rv, pv⟩ HEA7.out HG7.out HK7.out hg3 ho3)
                   clear ho3 hb3 hg3))
              go_roundw
              case rel => exact ⟨q - 1, l ++ [⟨e7, rv, pv⟩], N2 + 1, by go_num, by rw [List.length_append, HMM.out]; show j + 1 + (q - 1) ≤ 10; omega, HS3.out, by omega⟩
              case measure => simp [intOf]; omega
            · go_simp
              go_at_call 22
              (with_reducible refine (HNX.out).mono ?_)
              rintro ed4 w4 ⟨x4, hx4, rfl, ho4, hsz4, hn4⟩
              have oa : Only (fun k => k = D) wr w4 := (Only.of_below (fun k => k = D) (below_drewN (Below.refl _ wr) 1)).trans ho4 (fun k hk => .inl hk)
              have HS4 := Lib.hid (HSR.out.draw hDw oa hn4)
              have HBX4 := Lib.hid (HBR.out.only oa hDb)
              have hEA4 : EntAt w4 w.heap.size e rv pv := HEAR.out.only oa (fun g hg => by have := (HEAR.out.raw.lt g hg).1; omega) (fun g hg => by have := (HEAR.out.peers.lt g hg).1; omega)
              have HEA4 := Lib.hid hEA4
              have z39 : w4.cell? ⟨box, 39, none⟩ = some (.int .i64 z) := (oa.cell (p := ⟨box, 39, none⟩) HBR.out.lt hDb).trans y39
              have f39 := HBX4.out.frozen 39
              have hmul : (j : Int) * (x4 : Int) = 0 ∨ (j : Int) * (x4 : Int) = j := by
                rcases (show x4 = 0 ∨ x4 = 1 by omega) with rfl | rfl
                · left; simp
                · right; simp
              obtain ⟨pr, hpr⟩ : ∃ pr, (j : Int) * (x4 : Int) = pr := ⟨_, rfl⟩
              rw [hpr] at hmul
              have g1 : IntKind.i64.wrap pr = pr := IntWalk.i64_in _ (by omega)
              have g2 : IntKind.i64.wrap (z + pr) = z + pr := IntWalk.i64_in _ (by omega)
              clear hn4 ho4 hsz4 oa hEA4
              refine hK.out _ _ trivial (fun hHeld => ?_)
              clear hK K
              conv => arg 8; simp only [Act.put, List.setIfInBounds_toArray, List.set_cons_zero, List.set_cons_succ]
              refine wpAnyH_take (i := 6) (oi := ⟨some 44, _, _, _, _, _⟩) (v := ?_) rfl (by kernel_rfl) (by kernel_rfl) (by kernel_rfl) (fun _ _ _ h => h) (Or.inl ⟨by kernel_rfl, ?_⟩) hHeld ?_
              rotate_left
              · intro w hSw
                (try dsimp only at hSw)
                go_simp
                all_goals (with_reducible rfl)
              conv => arg 8; simp only [Act.put, List.setIfInBounds_toArray, List.set_cons_zero, List.set_cons_succ]
              refine wpAnyH_ready (rs := [1]) (by kernel_rfl) (by simp) ?_
              refine AllReadyH.cons (o := ⟨some 39, _, _, _, _, _⟩) rfl (fun K hK => ?_) AllReadyH.nil
              go_simp
              refine hK.out _ _ trivial (fun hHeld => ?_)
              clear hK K
              conv => arg 8; simp only [Act.put, List.setIfInBounds_toArray, List.set_cons_zero, List.set_cons_succ]
              refine wpAnyH_take (i := 7) (oi := ⟨some 45, _, _, _, _, _⟩) (v := ?_) rfl (by kernel_rfl) (by kernel_rfl) (by kernel_rfl) (fun _ _ _ h => h) (Or.inl ⟨by kernel_rfl, ?_⟩) hHeld ?_
              rotate_left
              · intro w hSw
                (try dsimp only at hSw)
                go_simp
                all_goals (with_reducible rfl)
              conv => arg 8; simp only [Act.put, List.setIfInBounds_toArray, List.set_cons_zero, List.set_cons_succ]
              refine wpAnyH_take (i := 8) (oi := ⟨some 46, _, _, _, _, _⟩) (v := ?_) rfl (by kernel_rfl) (by kernel_rfl) (by kernel_rfl) (fun _ _ _ h => h) (Or.inl ⟨by kernel_rfl, ?_⟩) hHeld ?_
              rotate_left
              · intro w hSw
                (try dsimp only at hSw)
                go_simp
                all_goals (with_reducible rfl)
              conv => arg 8; simp only [Act.put, List.setIfInBounds_toArray, List.set_cons_zero, List.set_cons_succ]
              refine wpAnyH_ready (rs := [9]) (by kernel_rfl) (by simp) ?_
              refine AllReadyH.cons (o := ⟨none, _, _, _, _, _⟩) rfl (fun K hK => ?_) AllReadyH.nil
              go_simp
              generalize hw7 : World.setCell _ _ _ = w7
              have hb7 : Blk w7 box 47 (entCells { e with ord := z + pr } rv pv).toArray := by
                rw [← hw7]
                have h1 := HBX4.out.set_ 39 (.int .i64 (z + pr))
                rw [entCells_setO] at h1
                exact h1
              have o7 : Only (fun k => k = box) w4 w7 := by rw [← hw7]; exact (Only.refl (fun k => k = box) w4).setCell_ (p := ⟨box, 39, none⟩) (.inl rfl) _
              have hs7 := HS4.out.box (by omega) HBX4.out (fun e => by have := (HVB.out _ e).2; omega) hDb o7
              have hea7 : EntAt w7 w.heap.size { e with ord := z + pr } rv pv := (show EntAt w4 w.heap.size { e with ord := z + pr } rv pv from ⟨HEA4.out.raw, HEA4.out.peers⟩).only o7 (fun g e1 e2 => own_blk_ne HEA4.out.raw HBX4.out (by decide) (e2 ▸ e1)) (fun g e1 e2 => own_blk_ne HEA4.out.peers HBX4.out (by decide) (e2 ▸ e1))
              have HB7 := Lib.hid hb7
              have HS7 := Lib.hid hs7
              have HEA7 := Lib.hid hea7
              clear hw7 hb7 o7 z39 f39 hs7 hea7
              refine hK.out _ _ trivial (fun hHeld => ?_)
              clear hK K
              conv => arg 8; simp only [Act.put, List.setIfInBounds_toArray, List.set_cons_zero, List.set_cons_succ]
              refine wpAnyH_done (by kernel_rfl) ?_ _
              refine NoPanic.normal ?_
              clear hHeld y39 hmul g1 g2 hpr hDb
              obtain ⟨e7, he7⟩ : ∃ e7, ({ e with ord := z + pr } : Ent) = e7 := ⟨_, rfl⟩
              have hg7 : Good e7 := by rw [← he7]; exact ⟨HMD.out.rn, HMD.out.pn, HMD.out.key⟩
              have hk7 : hasK (entKeys l) e7.key = false := by
                rw [← he7]
                show hasK (entKeys l) e.key = false
                rw [HKX.out]; exact HBB.out
              rw [he7] at HB7 HEA7
              have HG7 := Lib.hid hg7
              have HK7 := Lib.hid hk7
              clear he7 hg7 hk7
              have s1 := aggOk_mk (blk_ent_range HB7.out) (entCells_len _ _ _)
              have s2 := loadN_eq (blk_ent_range HB7.out) (entCells_len _ _ _)
              have hown7 := HS7.out.own
              have HOWN7 := Lib.hid hown7
              have hfl : l.length ≤ 977343669106 := by rw [HMM.out]; omega
              have hsz7 := HS7.out.only.size
              clear hown7
              go_wp2_with (first
                | (refine wpList_buildSlice rfl 22 47 1 _ rfl (entCells e7 rv pv).toArray i0 _ Try.underlying22 HI0.out HZ0.out (by rw [hz1]; omega) (by rw [hz1]; omega) (by simp only [List.map_toArray, List.map_cons, List.map_nil]; exact ent_fill2 HEA7.out.rd.see i0 hz1) ?_)
                | (at_builtin
                   refine wpList_app_ent rfl (.tmp 47) (.tmp 49) rfl w.heap.size _ _ rfl HOWN7.out ⟨e7, rv, pv⟩ HEA7.out.rd.one rfl hfl hsz7 ?_
                   intro v3 w3 ho3 hb3 hg3
                   have HS3 := Lib.hid (HS7.out.push hB hDw ⟨e7, rv, pv⟩ HEA7.out HG7.out HK7.out hg3 ho3)
                   clear ho3 hb3 hg3))
              go_roundw
              case rel => exact ⟨q - 1, l ++ [⟨e7, rv, pv⟩], N2 + 1, by go_num, by rw [List.length_append, HMM.out]; show j + 1 + (q - 1) ≤ 10; omega, HS3.out, by omega⟩
              case measure => simp [intOf]; omega
          · go_wp2_with fail
            go_roundw
            case rel => exact ⟨q - 1, l, N2, by go_num, by rw [HMM.out]; omega, HSR.out, by omega⟩
            case measure => simp [intOf]; omega
end Go.Proofs.Ytoamjdjmfhdaeaa
