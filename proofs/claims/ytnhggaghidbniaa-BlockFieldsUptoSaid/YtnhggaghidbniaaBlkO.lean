/- The reference's header message. -/
import Derived.Test.YtnhggaghidbniaaBlkN
namespace Go.Proofs.Ytnhggaghidbniaa
open Go.RowKit
set_option linter.unusedVariables false
set_option linter.unusedSimpArgs false
open Wir

theorem key4_fill (a b c d : Ky) (ie : TypeInfo) (hs : ie.size = 32) : Instr.fill (fun i => some (i * ie.size, ie.size)) ((Array.range (4 * ie.size)).map ((Value.agg (Array.replicate 32 (.int .u8 0))).cells[· % (Value.agg (Array.replicate 32 (.int .u8 0))).cells.size]!)) [(0, keyV a), (1, keyV b), (2, keyV c), (3, keyV d)] = some (k4 a b c d).toArray := by
  rw [hs]
  kernel_rfl
theorem k4_get (x : Hd) {j : Nat} (hj : j < 4) {i : Nat} {u : Value} (h : (bytesOf 32 (keyAt x j))[i]? = some u) : (k4 x.par x.txs x.app x.res)[j * 32 + i]? = some u := by
  have hi := (List.getElem?_eq_some_iff.1 h).1
  rw [bytesOf_length] at hi
  unfold k4
  match j, hj, h with
  | 0, _, h =>
    rw [List.getElem?_append_left (by rw [bytesOf_length]; omega), show 0 * 32 + i = i by omega]
    exact h
  | 1, _, h =>
    rw [List.getElem?_append_right (by rw [bytesOf_length]; omega), bytesOf_length, List.getElem?_append_left (by rw [bytesOf_length]; omega), show 1 * 32 + i - 32 = i by omega]
    exact h
  | 2, _, h =>
    rw [List.getElem?_append_right (by rw [bytesOf_length]; omega), bytesOf_length, List.getElem?_append_right (by rw [bytesOf_length]; omega), bytesOf_length, List.getElem?_append_left (by rw [bytesOf_length]; omega), show 2 * 32 + i - 32 - 32 = i by omega]
    exact h
  | 3, _, h =>
    rw [List.getElem?_append_right (by rw [bytesOf_length]; omega), bytesOf_length, List.getElem?_append_right (by rw [bytesOf_length]; omega), bytesOf_length, List.getElem?_append_right (by rw [bytesOf_length]; omega), bytesOf_length, show 3 * 32 + i - 32 - 32 - 32 = i by omega]
    exact h
/-- the state of the loops -/
def HfRel (w : World) (g : Nat) (cx : Array Value) (fs : List Fld) (wr : World) (v : Value) : Prop := Below w.heap.size w wr ∧ (∃ items, OwnFs wr w.heap.size v items ∧ items.map FItem.f = fs) ∧ Blk wr g 25 cx
theorem HfRel.below {w wr w' : World} {g : Nat} {cx : Array Value} {fs : List Fld} {v : Value} (h : HfRel w g cx fs wr v) (hb : Below wr.heap.size wr w') : HfRel w g cx fs w' v := by
  obtain ⟨h1, ⟨items, h2, h3⟩, h4⟩ := h
  exact ⟨h1.trans (hb.mono h1.size), ⟨items, h2.below hb, h3⟩, h4.below hb h4.lt⟩
theorem HfRel.step {w wr w' : World} {g : Nat} {cx : Array Value} {items : List FItem} {v v' : Value} {f : Fld} {u : Value} (h1 : Below w.heap.size w wr) (h2 : OwnFs wr w.heap.size v items) (h4 : Blk wr g 25 cx) (hu : OwnB wr w.heap.size u f.bytes)
    (ho : OwnF w' w.heap.size v' (items ++ [⟨f, u⟩])) (hg : wr.grownBy w' v.ownBlock) : HfRel w g cx (items.map FItem.f ++ [f]) w' v' := by
  have h2' : wr.ownsRow w.heap.size 50 4 v items.length (fldsOf items) := h2.row
  refine ⟨h1.grown hg h1.size (fun k e => (h2'.lt k e).1), ⟨_, ⟨ho, fun x hx => ?_⟩, by rw [List.map_append]; rfl⟩, h4.grown hg (fun e => own_blk_ne h2' h4 (by decide) e.symm)⟩
  rcases List.mem_append.1 hx with hx | hx
  · exact (h2.byt x hx).grownF h2.row hg
  · obtain rfl := List.mem_singleton.1 hx
    exact hu.grownF h2.row hg
theorem hdSum (x : Hd) : fieldsSum (hdFields x) ≤ 1000000000 := by
  unfold hdFields
  simp only [fieldsSum_cons, numF, bytF, kL_len, List.length_nil]
  unfold fieldsSum
  simp
set_option maxRecDepth 100000 in
set_option maxHeartbeats 4000000 in
attribute [local go_sem ↓] wp_load_k in
theorem rheader_any (w : World) (x : Hd) (hx : x.fits) :
    Calls Try.prog 30 #[hdV x] w fun e w' => ∃ v, e = .returned v ∧ Below w.heap.size w w' ∧ OwnB w' w.heap.size v (headerB x) := by
  obtain ⟨i0, hi0, hz0, hz1, hz2⟩ := info_parts fld_info
  obtain ⟨j0, hj0, hy0, hy1, hy2⟩ := info_parts key_info
  have HI0 := Lib.hid hi0
  have HZ0 := Lib.hid hz0
  have HJ0 := Lib.hid hj0
  have HY0 := Lib.hid hy0
  obtain ⟨cx, hcx⟩ : ∃ cx, (hdCells x).toArray = cx := ⟨_, rfl⟩
  show Calls _ _ #[.agg (hdCells x).toArray] _ _
  rw [hcx]
  have HCX := Lib.hid hcx
  have HF := Lib.hid (fun j => Hd.fits.num hx j)
  have HOK := Lib.hid (hdFields_okay hx)
  clear hx hcx hi0 hz0 hj0 hy0
  go_enter Try.func30, Try.ntmps30
  go_upto_region 2 with (fail)
  generalize hw1 : World.alloc _ _ = w1
  have hb1 : Below w.heap.size w w1 := by rw [← hw1]; exact (Below.refl _ _).alloc (Nat.le_refl _) _
  have hk1 : Blk w1 w.heap.size 25 cx := by rw [← hw1]; exact heap_alloc_new _ _
  obtain ⟨g, hg⟩ : ∃ g, w.heap.size = g := ⟨_, rfl⟩
  have hat : HdAt w1 g 0 x := fun j u hu => by
    rw [← hg, Nat.zero_add, hk1.cell, ← HCX.out]
    exact List.getElem?_toArray.trans hu
  rw [hg] at hk1 ⊢
  have HGG := Lib.hid hg
  have HK1 := Lib.hid hk1
  have HB1 := Lib.hid hb1
  obtain ⟨c0, c1, c2⟩ := hat.num
  clear hw1 hb1 hk1 hat hg
  go_upto_region 3 with (fail)
  generalize hw2 : World.alloc _ _ = w2
  have h2 : Below w1.heap.size w1 w2 ∧ Blk w2 w1.heap.size 3 #[.int .i64 x.h, .int .i64 x.t, .int .i64 x.p] := by
    rw [← hw2]
    exact ⟨(Below.refl _ _).alloc (Nat.le_refl _) _, heap_alloc_new _ _⟩
  obtain ⟨D, hD⟩ : ∃ D, w1.heap.size = D := ⟨_, rfl⟩
  have HR2 : Hid (HfRel w g cx [] w2 (.slice none 0 0)) := Lib.hid ⟨HB1.out.trans (h2.1.mono HB1.out.size), ⟨[], OwnFs.nil _ _, rfl⟩, HK1.out.below h2.1 HK1.out.lt⟩
  have HD2 := Lib.hid h2.2
  rw [hD] at HD2 ⊢
  clear hw2 h2 hD c0 c1 c2 HB1 HK1
  go_loopw [3, 16] (fun s i wr => ∃ j : Nat, i = .int .i64 (j : Int) ∧ j ≤ 3 ∧ HfRel w g cx ((hdFields x).take j) wr s ∧ Blk wr D 3 #[.int .i64 x.h, .int .i64 x.t, .int .i64 x.p]) (fun _ i _ => 3 - (intOf i).toNat)
  case atStart => exact ⟨0, rfl, by omega, HR2.out, HD2.out⟩
  case round =>
    obtain ⟨j, rfl, hj, hr, hb2⟩ := hrel
    have HR := Lib.hid hr
    have HB2 := Lib.hid hb2
    rcases Nat.lt_or_ge j 3 with hlt | hge
    · have t1 : (j : Int) < 3 := by omega
      have t0 : (0 : Int) ≤ (j : Int) := by omega
      have hcell : wr.cell? ⟨D, j, none⟩ = some (.int .i64 (numAt x j)) := by
        rw [hb2.cell]
        match j, hlt with
        | 0, _ => rfl
        | 1, _ => rfl
        | 2, _ => rfl
      obtain ⟨hn1, hn2⟩ := HF.out j
      have hfs := fields_num x hlt
      have HFS := Lib.hid hfs
      obtain ⟨nn, hnn⟩ : ∃ nn, numAt x j = nn := ⟨_, rfl⟩
      rw [hnn] at hcell hn1 hn2 HFS
      have g1 : IntKind.i64.wrap ((j : Int) + 1) = (j : Int) + 1 := IntWalk.i64_in _ (by omega)
      obtain ⟨h1, ⟨items, h2, h3⟩, h4⟩ := hr
      have hil : items.length ≤ 3 := by have := congrArg List.length h3; rw [List.length_map, List.length_take] at this; omega
      have hz := h1.size
      have hrow := h2.row
      have H1 := Lib.hid h1
      have H2 := Lib.hid h2
      have H3 := Lib.hid h3
      have H4 := Lib.hid h4
      have HROW := Lib.hid hrow
      clear hfs hnn hj hb2 h1 h2 h3 h4 hrow HR HR2
      have hcase : ∃ q : Nat, (nn < 0 ∧ q = 0) ∨ (nn = (q : Int)) := by
        rcases Int.lt_or_le nn 0 with h | h
        · exact ⟨0, .inl ⟨h, rfl⟩⟩
        · exact ⟨nn.toNat, .inr (by omega)⟩
      obtain ⟨q, ⟨hneg, rfl⟩ | rfl⟩ := hcase
      · have hfe : numF ((j : Int) + 1) nn = ⟨(j : Int) + 1, 0, 0, []⟩ := by unfold numF; congr 1; omega
        rw [hfe] at HFS
        clear hfe
        go_wp2_with (first
          | (refine wpList_buildSlice rfl 46 50 1 _ rfl #[.int .i64 ((j : Int) + 1), .int .i64 0, .int .u64 ((0 : Nat) : Int), .slice none 0 0] i0 _ Try.underlying46 HI0.out HZ0.out (by rw [hz1]; omega) (by rw [hz1]; omega) (by simp only [List.map_toArray, List.map_cons, List.map_nil]; exact fld_fill _ _ _ _ i0 hz1) ?_)
          | (at_builtin
             refine wpList_app_fld rfl (.tmp 21) (.tmp 28) rfl w.heap.size _ items rfl HROW.out ((j : Int) + 1) 0 0 [] (.slice none 0 0) rfl rfl (by omega) hz ?_
             intro v7 w7 ho7 hb7 hg7
             have HR7 := Lib.hid (HfRel.step H1.out H2.out H4.out (OwnB.nil _ _) ho7 hg7)
             have HB7 := Lib.hid (HB2.out.grown hg7 (fun e => own_blk_ne HROW.out HB2.out (by decide) e.symm))
             clear ho7 hb7 hg7))
        go_roundw
        case rel =>
          refine ⟨j + 1, by go_num, by omega, ?_, HB7.out⟩
          have h := HR7.out
          rw [H3.out] at h
          rw [HFS.out]
          exact h
        case measure => simp [intOf]; omega
      · have hfe : numF ((j : Int) + 1) (q : Int) = ⟨(j : Int) + 1, 0, q, []⟩ := by unfold numF; congr 1; omega
        rw [hfe] at HFS
        have hp0 : (0 : Int) ≤ (q : Int) := by omega
        have g2 : IntKind.u64.wrap (q : Int) = (q : Int) := by rw [IntKind.wrap_u64]; omega
        clear hfe
        go_wp2_with (first
          | (refine wpList_buildSlice rfl 46 50 1 _ rfl #[.int .i64 ((j : Int) + 1), .int .i64 0, .int .u64 ((q : Nat) : Int), .slice none 0 0] i0 _ Try.underlying46 HI0.out HZ0.out (by rw [hz1]; omega) (by rw [hz1]; omega) (by simp only [List.map_toArray, List.map_cons, List.map_nil]; exact fld_fill _ _ _ _ i0 hz1) ?_)
          | (at_builtin
             refine wpList_app_fld rfl (.tmp 21) (.tmp 28) rfl w.heap.size _ items rfl HROW.out ((j : Int) + 1) 0 q [] (.slice none 0 0) rfl rfl (by omega) hz ?_
             intro v7 w7 ho7 hb7 hg7
             have HR7 := Lib.hid (HfRel.step H1.out H2.out H4.out (OwnB.nil _ _) ho7 hg7)
             have HB7 := Lib.hid (HB2.out.grown hg7 (fun e => own_blk_ne HROW.out HB2.out (by decide) e.symm))
             clear ho7 hb7 hg7))
        go_roundw
        case rel =>
          refine ⟨j + 1, by go_num, by omega, ?_, HB7.out⟩
          have h := HR7.out
          rw [H3.out] at h
          rw [HFS.out]
          exact h
        case measure => simp [intOf]; omega
    · obtain rfl : j = 3 := by omega
      have t1 : ¬ ((3 : Nat) : Int) < 3 := by omega
      have hatr : HdAt wr g 0 x := fun i u hu => by
        rw [Nat.zero_add, HR.out.2.2.cell, ← HCX.out]
        exact List.getElem?_toArray.trans hu
      have k1 := hatr.key (s := 3) (fun _ _ => hd_par x)
      have k2 := hatr.key (s := 35) (fun _ _ => hd_txs x)
      have k3 := hatr.key (s := 67) (fun _ _ => hd_app x)
      have k4' := hatr.key (s := 99) (fun _ _ => hd_res x)
      have l1 := keyOk_mk k1
      have l2 := loadK_eq k1
      have l3 := keyOk_mk k2
      have l4 := loadK_eq k2
      have l5 := keyOk_mk k3
      have l6 := loadK_eq k3
      have l7 := keyOk_mk k4'
      have l8 := loadK_eq k4'
      clear hatr k1 k2 k3 k4' hr hb2
      go_upto_region 8 with (refine wpList_buildSlice rfl 80 23 4 _ rfl (k4 x.par x.txs x.app x.res).toArray j0 _ Try.underlying80 HJ0.out HY0.out (by rw [hy1]; omega) (by rw [hy1]; omega) (by simp only [List.map_toArray, List.map_cons, List.map_nil]; exact key4_fill _ _ _ _ j0 hy1) ?_)
      generalize hw5 : World.alloc _ _ = w5
      have h5 : Below wr.heap.size wr w5 ∧ Blk w5 wr.heap.size 23 (k4 x.par x.txs x.app x.res).toArray := by
        rw [← hw5]
        exact ⟨(Below.refl _ _).alloc (Nat.le_refl _) _, heap_alloc_new _ _⟩
      obtain ⟨E, hE⟩ : ∃ E, wr.heap.size = E := ⟨_, rfl⟩
      have HR5 := Lib.hid (HR.out.below h5.1)
      have HK5 := Lib.hid h5.2
      rw [hE] at HK5 ⊢
      clear hw5 h5 hE l1 l2 l3 l4 l5 l6 l7 l8 HD2 HB2 HR HR2
      go_loopw [3, 41] (fun s i wq => ∃ j : Nat, i = .int .i64 (j : Int) ∧ j ≤ 4 ∧ HfRel w g cx ((hdFields x).take (3 + j)) wq s ∧ Blk wq E 23 (k4 x.par x.txs x.app x.res).toArray) (fun _ i _ => 4 - (intOf i).toNat)
      case atStart => exact ⟨0, rfl, by omega, HR5.out, HK5.out⟩
      case round =>
        obtain ⟨j, rfl, hj, hr, hb5⟩ := hrel
        have HB5 := Lib.hid hb5
        rcases Nat.lt_or_ge j 4 with hlt | hge
        · have t1 : (j : Int) < 4 := by omega
          have t0 : (0 : Int) ≤ (j : Int) := by omega
          have hfs := fields_key x hlt
          obtain ⟨kk, hkk⟩ : ∃ kk, keyAt x j = kk := ⟨_, rfl⟩
          have hkc : ∀ i u, (bytesOf 32 kk)[i]? = some u → wr.cell? ((⟨E, j * 32, none⟩ : Addr).add i) = some u := fun i u hu => by
            rw [add_flat, hb5.cell]
            exact List.getElem?_toArray.trans (k4_get x hlt (by rw [hkk]; exact hu))
          rw [hkk] at hfs
          have HFS := Lib.hid hfs
          have g1 : IntKind.i64.wrap ((j : Int) + 4) = (j : Int) + 4 := IntWalk.i64_in _ (by omega)
          obtain ⟨h1, ⟨items, h2, h3⟩, h4⟩ := hr
          have hil : items.length ≤ 7 := by have := congrArg List.length h3; rw [List.length_map, List.length_take] at this; omega
          have H3 := Lib.hid h3
          have l1 := keyOk_mk hkc
          have l2 := loadK_eq hkc
          have H1 := Lib.hid h1
          have H2 := Lib.hid h2
          have H4 := Lib.hid h4
          clear hfs hkk hj h1 h2 h3 h4 hkc hb5
          go_upto_region 10 with (refine wpList_store_rowTo rfl 23 (.tmp 7) (.tmp 45) rfl rfl wr.heap.size (bytesOf 32 kk).toArray rfl rfl _ _ (heap_alloc_new _ _) (by rw [keyV_size]; kernel_rfl) (by rw [keyV_size]; kernel_rfl) (keyV_one _) ?_)
          generalize hwc : World.setRow _ _ _ = wc
          have hkc : Below wr.heap.size wr wc ∧ Blk wc wr.heap.size 23 (bytesOf 32 kk).toArray := by
            rw [← hwc]
            exact row_step ((Below.refl _ _).alloc (Nat.le_refl _) _) (Nat.le_refl _) (heap_alloc_new _ _) _
          have HS := Lib.hid (SeeB.key hkc.2)
          have HBc := Lib.hid (HB5.out.below hkc.1 HB5.out.lt)
          have H1c := Lib.hid (H1.out.trans (hkc.1.mono H1.out.size))
          have H2c := Lib.hid (H2.out.below hkc.1)
          have H4c := Lib.hid (H4.out.below hkc.1 H4.out.lt)
          clear hwc hkc H1 H2 H4 HB5 l1 l2
          have hzc := H1c.out.size
          have hown0 : OwnB (wc.alloc (.cells #[] 5)) w.heap.size (.slice (some ⟨wc.heap.size, 0, none⟩) 0 0) [] :=
            ⟨rfl, .inr ⟨wc.heap.size, 0, #[], rfl, hzc, heap_alloc_new _ _, Nat.le_refl _, Nat.zero_le _, rfl, rfl⟩⟩
          have hbel : Below wc.heap.size wc (wc.alloc (.cells #[] 5)) := (Below.refl _ _).alloc (Nat.le_refl _) _
          have HOW := Lib.hid hown0
          have HBL := Lib.hid hbel
          clear hown0 hbel
          go_wp2_with (at_builtin
                       refine halted ?_)
          change wpList _ _ _ _ _ _
          refine wpList_app_bytes rfl (.tmp 49) (.tmp 50) rfl w.heap.size _ [] rfl HOW.out _ (kL kk) rfl (HS.out.below HBL.out) (by simp [kL_len]) (Nat.le_trans hzc HBL.out.size) ?_
          intro u6 w6 ho6 hb6 hg6
          rw [List.nil_append] at ho6
          obtain ⟨A6, c6, he6⟩ := own_form (show w6.ownsRow w.heap.size 5 1 u6 _ _ from ho6)
          rw [kL_len] at he6
          subst he6
          have hwc6 : Below wc.heap.size wc w6 := by
            have h7 : Below wc.heap.size (wc.alloc (.cells #[] 5)) w6 := (Below.refl _ _).grown hg6 HBL.out.size (fun k e => by have e : some wc.heap.size = some k := e; injection e with e; omega)
            exact HBL.out.trans h7
          have H1d := Lib.hid (H1c.out.trans (hwc6.mono H1c.out.size))
          have H2d := Lib.hid (H2c.out.below hwc6)
          have H4d := Lib.hid (H4c.out.below hwc6 H4c.out.lt)
          have HBd := Lib.hid (HBc.out.below hwc6 HBc.out.lt)
          have HOd := Lib.hid ho6
          have hrow := H2d.out.row
          have HROW := Lib.hid hrow
          have hzd := H1d.out.size
          clear ho6 hb6 hg6 hwc6 hrow H1c H2c H4c HBc
          go_wp2_with (first
            | (refine wpList_buildSlice rfl 46 50 1 _ rfl #[.int .i64 ((j : Int) + 4), .int .i64 2, .int .u64 0, .slice A6 32 c6] i0 _ Try.underlying46 HI0.out HZ0.out (by rw [hz1]; omega) (by rw [hz1]; omega) (by simp only [List.map_toArray, List.map_cons, List.map_nil]; exact fld_fill _ _ _ _ i0 hz1) ?_)
            | (at_builtin
               refine wpList_app_fld rfl (.tmp 46) (.tmp 53) rfl w.heap.size _ items rfl HROW.out ((j : Int) + 4) 2 0 (kL kk) _ rfl rfl (by omega) hzd ?_
               intro v7 w7 ho7 hb7 hg7
               have HR7 := Lib.hid (HfRel.step H1d.out H2d.out H4d.out HOd.out ho7 hg7)
               have HB7 := Lib.hid (HBd.out.grown hg7 (fun e => own_blk_ne HROW.out HBd.out (by decide) e.symm))
               clear ho7 hb7 hg7))
          go_roundw
          case rel =>
            refine ⟨j + 1, by go_num, by omega, ?_, HB7.out⟩
            have h := HR7.out
            rw [H3.out] at h
            rw [← Nat.add_assoc, HFS.out]
            exact h
          case measure => simp [intOf]; omega
        · obtain rfl : j = 4 := by omega
          have t1 : ¬ ((4 : Nat) : Int) < 4 := by omega
          obtain ⟨h1, ⟨items, h2, h3⟩, h4⟩ := hr
          obtain ⟨A7, c7, rfl, hfa⟩ := h2.row.form (fun y hy => (h2.byt y hy).see)
          have h3 : items.map FItem.f = hdFields x := h3
          have hil : items.length = 7 := by have := congrArg List.length h3; rw [List.length_map] at this; exact this
          have hm := message_any wr A7 _ c7 items hfa (by rw [h3]; exact hdSum x) (fun y hy => (HOK.out y.f (by rw [← h3]; exact List.mem_map.2 ⟨y, hy, rfl⟩)).2.1)
          rw [h3, msgR_right _ (fun f hf => (HOK.out f hf).1)] at hm
          have HM := Lib.hid hm
          have H1 := Lib.hid h1
          have hz1' := h1.size
          clear hm h1 h2 h3 h4 hfa hb5 hil
          go_wp2_with fail
          refine HM.out.mono ?_
          rintro e w8 ⟨v8, rfl, hb8, ho8⟩
          have H8 := Lib.hid (H1.out.trans (hb8.mono H1.out.size))
          have HO8 := Lib.hid (ho8.less hz1')
          clear hb8 ho8
          go_wp2_with fail
          go_ret
          have e := HGG.out
          subst e
          exact ⟨_, rfl, H8.out, HO8.out⟩
end Go.Proofs.Ytnhggaghidbniaa
