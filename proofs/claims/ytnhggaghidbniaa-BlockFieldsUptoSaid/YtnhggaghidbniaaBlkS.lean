/- The program's reading of a header message. -/
import Derived.Test.YtnhggaghidbniaaBlkR
namespace Go.Proofs.Ytnhggaghidbniaa
open Go.RowKit
set_option linter.unusedVariables false
set_option linter.unusedSimpArgs false
open Wir

/-- where the reading of a header stands -/
structure RdSt (w : World) (g gh : Nat) (y : Hd) (lv : Value) (items : List FItem) (wr : World) : Prop where
  bel : Below w.heap.size w wr
  box : Blk wr g 25 (hdCells (hdPart [] 0)).toArray
  hd : Blk wr gh 25 (hdCells y).toArray
  fs : OwnFs wr w.heap.size lv items
theorem RdSt.below {w wr w' : World} {g gh : Nat} {y : Hd} {lv : Value} {items : List FItem} (h : RdSt w g gh y lv items wr) (hb : Below wr.heap.size wr w') : RdSt w g gh y lv items w' :=
  ⟨h.bel.trans (hb.mono h.bel.size), h.box.below hb h.box.lt, h.hd.below hb h.hd.lt, h.fs.below hb⟩
theorem OwnFs.only {w w' : World} {base gh : Nat} {lv : Value} {items : List FItem} {cs : Array Value} (h : OwnFs w base lv items) (hk : Blk w gh 25 cs) (ho : Only (fun k => k = gh) w w') : OwnFs w' base lv items := by
  have h1 : w.ownsRow base 50 4 lv items.length (fldsOf items) := h.row
  refine ⟨owns_only h1 ho (fun k e1 e2 => own_blk_ne h1 hk (by decide) (e2 ▸ e1)), fun x hx => ?_⟩
  have h2 : w.ownsRow base 5 1 x.v x.f.bytes.length (bytesL x.f.bytes) := h.byt x hx
  exact owns_only h2 ho (fun k e1 e2 => own_blk_ne h2 hk (by decide) (e2 ▸ e1))
theorem RdSt.setN {w wr : World} {g gh : Nat} {y : Hd} {lv : Value} {items : List FItem} (h : RdSt w g gh y lv items wr) (hne : g ≠ gh) (hge : w.heap.size ≤ gh) {j : Nat} (hj : j < 3) (z : Int) : RdSt w g gh (putN y j z) lv items (wr.setCell ⟨gh, j, none⟩ (.int .i64 z)) := by
  refine ⟨h.bel.setCell hge _, h.box.far hne _, ?_, h.fs.only h.hd ((Only.refl (fun k => k = gh) wr).setCell_ (p := ⟨gh, j, none⟩) (.inl rfl) _)⟩
  rw [← hdCells_putN y hj z]
  exact h.hd.set_ j _
theorem RdSt.setK {w wr : World} {g gh : Nat} {y : Hd} {lv : Value} {items : List FItem} (h : RdSt w g gh y lv items wr) (hne : g ≠ gh) (hge : w.heap.size ≤ gh) {j : Nat} (hj : j < 4) (k : Ky) : RdSt w g gh (putK y j k) lv items (wr.setCells gh (3 + j * 32) (bytesOf 32 k)) := by
  have ho : Only (fun q => q = gh) wr (wr.setCells gh (3 + j * 32) (bytesOf 32 k)) := setCells_only _ wr gh _ _ (.inl rfl)
  refine ⟨Only.below_trans h.bel ho h.bel.size (fun q hq => by rw [hq]; exact hge), h.box.only ho hne, ?_, h.fs.only h.hd ho⟩
  have h1 := setCells_blk (t := 25) (bytesOf 32 k) (3 + j * 32) _ wr h.hd (by rw [bytesOf_length, List.size_toArray, hdCells_len]; omega)
  unfold Blk
  rw [h1, bytesOf_length]
  rw [← hdCells_putK y hj k]
theorem wp_store_ky (x y : Operand) (ty : TypeId) (pos : String) (after : Array Edge) (guard : Option (Nat × Bool)) (a : Act) (W : World) (K : Act → World → Prop) (Q : Exit → Act → World → Prop) (h : StoOk 32 W (a.eval x) (a.eval y)) :
    Oper.wp Try.prog { dst := none, op := .store 23 x y, type := ty, pos := pos, after := after, guard := guard } a W K Q = K a (storeMid W (a.eval x) (a.eval y)) :=
  wp_store_agg (by kernel_rfl) x y ty pos after guard a W K Q h
theorem index_p3 (g a b c : Nat) (W : World) :
    (Instr.index 73 (.agg #[.pointer (some ⟨g, a, none⟩), .pointer (some ⟨g, b, none⟩), .pointer (some ⟨g, c, none⟩)]) (.int .i64 0)).run Try.prog W = .ok (.pointer (some ⟨g, a, none⟩)) W ∧
    (Instr.index 73 (.agg #[.pointer (some ⟨g, a, none⟩), .pointer (some ⟨g, b, none⟩), .pointer (some ⟨g, c, none⟩)]) (.int .i64 1)).run Try.prog W = .ok (.pointer (some ⟨g, b, none⟩)) W ∧
    (Instr.index 73 (.agg #[.pointer (some ⟨g, a, none⟩), .pointer (some ⟨g, b, none⟩), .pointer (some ⟨g, c, none⟩)]) (.int .i64 2)).run Try.prog W = .ok (.pointer (some ⟨g, c, none⟩)) W := ⟨by kernel_rfl, by kernel_rfl, by kernel_rfl⟩
theorem index_p4 (g a b c d : Nat) (W : World) :
    (Instr.index 77 (.agg #[.pointer (some ⟨g, a, none⟩), .pointer (some ⟨g, b, none⟩), .pointer (some ⟨g, c, none⟩), .pointer (some ⟨g, d, none⟩)]) (.int .i64 0)).run Try.prog W = .ok (.pointer (some ⟨g, a, none⟩)) W ∧
    (Instr.index 77 (.agg #[.pointer (some ⟨g, a, none⟩), .pointer (some ⟨g, b, none⟩), .pointer (some ⟨g, c, none⟩), .pointer (some ⟨g, d, none⟩)]) (.int .i64 1)).run Try.prog W = .ok (.pointer (some ⟨g, b, none⟩)) W ∧
    (Instr.index 77 (.agg #[.pointer (some ⟨g, a, none⟩), .pointer (some ⟨g, b, none⟩), .pointer (some ⟨g, c, none⟩), .pointer (some ⟨g, d, none⟩)]) (.int .i64 2)).run Try.prog W = .ok (.pointer (some ⟨g, c, none⟩)) W ∧
    (Instr.index 77 (.agg #[.pointer (some ⟨g, a, none⟩), .pointer (some ⟨g, b, none⟩), .pointer (some ⟨g, c, none⟩), .pointer (some ⟨g, d, none⟩)]) (.int .i64 3)).run Try.prog W = .ok (.pointer (some ⟨g, d, none⟩)) W := ⟨by kernel_rfl, by kernel_rfl, by kernel_rfl, by kernel_rfl⟩
/-- what reading a header leaves -/
def HdOut (w : World) (r : Option Hd) (e : Ending) (w' : World) : Prop :=
  Below w.heap.size w w' ∧ match r with
  | some x => e = .returned (.tuple #[hdV x, .bool true])
  | none => ∃ y, e = .returned (.tuple #[hdV y, .bool false])
/-- a field of the list, and its cells -/
theorem OwnFs.at_ {w : World} {base : Nat} {lv : Value} {items : List FItem} (h : OwnFs w base lv items) {k : Nat} (hk : k < items.length) :
    ∃ g c, lv = .slice (some ⟨g, 0, none⟩) items.length c ∧ ∃ (f : Fld) (A : Option Addr) (cu : Nat), items[k]? = some ⟨f, .slice A f.bytes.length cu⟩ ∧ SeeB w (.slice A f.bytes.length cu) f.bytes ∧
      w.cell? ⟨g, k * 4, none⟩ = some (.int .i64 f.num) ∧ w.cell? ⟨g, k * 4 + 1, none⟩ = some (.int .i64 f.kind) ∧ w.cell? ⟨g, k * 4 + 2, none⟩ = some (.int .u64 (f.val : Int)) ∧ w.cell? ⟨g, k * 4 + 3, none⟩ = some (.slice A f.bytes.length cu) := by
  have hr : w.ownsRow base 50 4 lv items.length (fldsOf items) := h.row
  rcases hr.2 with ⟨_, h0⟩ | ⟨g, cap, cur, hv, hb, hg, hnc, hcm, hsz, htk⟩
  · omega
  · refine ⟨g, cap, hv, ?_⟩
    have hx : items[k]? = some items[k] := List.getElem?_eq_getElem hk
    have hs := (h.byt _ (List.getElem_mem hk)).see
    obtain ⟨A, c, e, h1, h2, h3⟩ := hs
    have hc : ∀ i u, (items[k]).cells[i]? = some u → w.cell? ⟨g, k * 4 + i, none⟩ = some u := fun i u hu => by
      have hi : i < 4 := by have := (List.getElem?_eq_some_iff.1 hu).1; rw [FItem.len] at this; exact this
      have := hr.cells (g := g) (by rw [hv]; rfl) (k * 4 + i) u ((fldsOf_get items k i _ hx hi).trans hu)
      rwa [add_flat, Nat.zero_add] at this
    generalize items[k] = x at hx e h1 h2 h3 hc
    obtain ⟨f, v⟩ := x
    have e : v = .slice A f.bytes.length c := e
    subst e
    exact ⟨f, A, c, hx, ⟨A, c, rfl, h1, h2, h3⟩, hc 0 _ rfl, hc 1 _ rfl, hc 2 _ rfl, hc 3 _ rfl⟩
theorem okAt_iff {l : List Fld} {i : Nat} {f : Fld} (h : l[i]? = some f) : okAt l i = (decide (f.num = (i : Int) + 1) && (if i < 3 then decide (f.kind = 0) && decide (f.val < 2 ^ 63) else decide (f.kind = 2) && decide (f.bytes.length = 32))) := by
  unfold okAt; rw [h]
theorem hd_szI (y : Hd) : (Try.prog.info? 25).map (·.size) = some (hdCells y).toArray.size := by
  rw [List.size_toArray, hdCells_len]; kernel_rfl
theorem hd_szE (y z : Hd) : (hdCells y).toArray.size = (hdCells z).toArray.size := by rw [List.size_toArray, List.size_toArray, hdCells_len, hdCells_len]
set_option maxRecDepth 100000 in
set_option maxHeartbeats 8000000 in
attribute [local go_sem ↓] wp_load_hd wp_load_k wp_store_ky in
theorem bread_any (w : World) (v : Value) (b : List UInt8) (hs : SeeB w v b) (hb : b.length ≤ 1073741824) :
    Calls Try.prog 28 #[v] w (HdOut w (readH b)) := by
  have HS := Lib.hid hs
  clear hs
  go_enter Try.func28, Try.ntmps28
  go_upto_region 2 with (fail)
  generalize hw1 : World.alloc (World.alloc _ _) _ = w1
  have hb1 : Below w.heap.size w w1 := by rw [← hw1]; exact ((Below.refl _ _).alloc (Nat.le_refl _) _).alloc (by simp) _
  have hk1 : Blk w1 w.heap.size 25 (hdCells (hdPart [] 0)).toArray := by rw [← hw1, ← hd0]; exact Blk.alloc (heap_alloc_new _ _) _
  have hq1 : Blk w1 (w.heap.size + 1) 25 (hdCells (hdPart [] 0)).toArray := by rw [← hw1, ← hd0]; exact heap_alloc_at _ _ _ (by simp)
  obtain ⟨g, hg⟩ : ∃ g, w.heap.size = g := ⟨_, rfl⟩
  obtain ⟨gh, hgh⟩ : ∃ gh, g + 1 = gh := ⟨_, rfl⟩
  rw [hg, hgh] at hq1
  rw [hg] at hk1
  rw [hg, hgh]
  have hne : g ≠ gh := by omega
  have HGE : Hid (w.heap.size ≤ gh) := Lib.hid (by omega)
  have HGG : Hid (w.heap.size ≤ g) := Lib.hid (by omega)
  have HEQ : Hid (g = w.heap.size) := Lib.hid hg.symm
  have HS1 := Lib.hid (HS.out.below hb1)
  have HB1 : Hid (Below w.heap.size w w1) := Lib.hid hb1
  have HK1 := Lib.hid hk1
  have HQ1 := Lib.hid hq1
  have HNE := Lib.hid hne
  clear hw1 hb1 hk1 hq1 hg hgh hne
  go_wp2_with fail
  refine (wfields_any w1 v b HS1.out hb).mono ?_
  rintro e w2 ⟨hb2, he2⟩
  cases hp : parse b 0 with
  | none =>
    rw [hp] at he2
    obtain ⟨at_, c, hc, rfl⟩ := he2
    have t1 : (c == 0) = false := beq_eq_false_iff_ne.2 hc
    have t1b : (c != 0) = true := bne_iff_ne.2 hc
    have HP := Lib.hid (readH_no hp)
    have HST : Hid (RdSt w g gh (hdPart [] 0) (.slice none 0 0) [] w2) := Lib.hid (RdSt.below ⟨HB1.out, HK1.out, HQ1.out, OwnFs.nil _ _⟩ hb2)
    clear hp hb2
    have hrg := hd_range HST.out.hd
    have q1 := aggOk_mk hrg (hdCells_len _)
    have q2 := loadN_eq hrg (hdCells_len _)
    clear hrg
    go_wp2_with (refine wpList_store_rowTo rfl 25 (.tmp 2) (.tmp 31) rfl rfl g (hdCells (hdPart [] 0)).toArray rfl rfl _ _ HST.out.box (hd_szI _) (hd_szE _ _) (all_one _ (hdCells_one _)) ?_)
    generalize hwz : World.setRow _ _ _ = wz
    have hz : Below w.heap.size w wz ∧ Blk wz g 25 (hdCells (hdPart [] 0)).toArray := by
      rw [← hwz]
      exact row_step HST.out.bel HGG.out HST.out.box _
    clear hwz
    refine bodyPost_ret (results_cell_tmp rfl _ _ g _ _ (0, 0) _ rfl hz.2 Try.underlying25 rfl (hd_szI _)) rfl ⟨hz.1, ?_⟩
    rw [HP.out]
    exact ⟨_, rfl⟩
  | some l =>
    rw [hp] at he2
    obtain ⟨lv, items, rfl, hfs, hmap⟩ := he2
    have HP := Lib.hid hp
    have HMAP := Lib.hid hmap
    have HST : Hid (RdSt w g gh (hdPart [] 0) lv items w2) := Lib.hid ⟨HB1.out.trans (hb2.mono HB1.out.size), HK1.out.below hb2 HK1.out.lt, HQ1.out.below hb2 HQ1.out.lt, hfs.less HB1.out.size⟩
    obtain ⟨A0, c0, hlv⟩ := own_form (show w2.ownsRow w1.heap.size 50 4 lv _ _ from hfs.row)
    subst hlv
    obtain ⟨il, hil⟩ : ∃ il, items.length = il := ⟨_, rfl⟩
    rw [hil] at HST ⊢
    have hll : l.length = il := by rw [← hmap, List.length_map, hil]
    have HIL := Lib.hid hil
    have HLL := Lib.hid hll
    clear hp hmap hb2 hfs hil hll HB1 HK1 HQ1 HS1
    by_cases h7 : il = 7
    · subst h7
      go_wp2_with fail
      go_loopw [34] (fun i wr => ∃ j : Nat, i = .int .i64 (j : Int) ∧ j ≤ 7 ∧ RdSt w g gh (hdPart [] 0) (.slice A0 7 c0) items wr ∧ ∀ (i : Nat) (f : Fld), i < j → l[i]? = some f → f.num = (i : Int) + 1) (fun i _ => 7 - (intOf i).toNat)
      case atStart => exact ⟨0, rfl, by omega, HST.out, fun i f hi => by omega⟩
      case round =>
        obtain ⟨j, rfl, hj, hst, hnums⟩ := hrel
        have HSR := Lib.hid hst
        have HNU := Lib.hid hnums
        clear hst hnums HST
        rcases Nat.lt_or_ge j 7 with hlt | hge
        · have t1 : (j : Int) < 7 := by omega
          have t0 : (0 : Int) ≤ (j : Int) := by omega
          obtain ⟨gl, cl, hlv, f, Af, cf, hfi, hsf, d0, d1, d2, d3⟩ := HSR.out.fs.at_ (k := j) (by rw [HIL.out]; exact hlt)
          have hA0 : A0 = some ⟨gl, 0, none⟩ := by injection hlv
          subst hA0
          have hlj : l[j]? = some f := by rw [← HMAP.out, List.getElem?_map, hfi]; rfl
          have HLJ := Lib.hid hlj
          obtain ⟨fl, hfl⟩ : ∃ fl, f.bytes.length = fl := ⟨_, rfl⟩
          rw [hfl] at d3
          have g1 : IntKind.i64.wrap ((j : Int) + 1) = (j : Int) + 1 := IntWalk.i64_in _ (by omega)
          clear hlv hfi hsf hlj hfl hj
          go_upto_region 8 with (refine wpList_store_rowTo rfl 50 (.tmp 9) (.tmp 38) rfl rfl wr.heap.size #[.int .i64 f.num, .int .i64 f.kind, .int .u64 (f.val : Int), .slice Af fl cf] rfl rfl _ _ (fld_new wr) (by kernel_rfl) rfl (by kernel_rfl) ?_)
          generalize hw5 : World.setRow _ _ _ = w5
          have h5 : Below wr.heap.size wr w5 ∧ Blk w5 wr.heap.size 50 #[.int .i64 f.num, .int .i64 f.kind, .int .u64 (f.val : Int), .slice Af fl cf] := by
            rw [← hw5]
            exact row_step ((Below.refl _ _).alloc (Nat.le_refl _) _) (Nat.le_refl _) (fld_new wr) _
          have HS5 := Lib.hid (HSR.out.below h5.1)
          have d0 := h5.2.cell 0
          simp only [List.getElem?_toArray, List.getElem?_cons_zero] at d0
          clear hw5 h5 d1 d2 d3 HSR
          by_cases hn : f.num = (j : Int) + 1
          · have HN := Lib.hid hn
            have t2 : (f.num == (j : Int) + 1) = true := beq_iff_eq.2 hn
            have t2b : (f.num != (j : Int) + 1) = false := by simp [hn]
            clear hn
            go_wp2_with fail
            go_roundw
            case rel =>
              refine ⟨j + 1, by go_num, by omega, HS5.out, fun i f' hi hf' => ?_⟩
              rcases Nat.lt_or_ge i j with h | h
              · exact HNU.out i f' h hf'
              · obtain rfl : i = j := by omega
                rw [HLJ.out] at hf'
                injection hf' with hf'
                rw [← hf']
                exact HN.out
            case measure => simp [intOf]; omega
          · have t2 : (f.num == (j : Int) + 1) = false := beq_eq_false_iff_ne.2 hn
            have t2b : (f.num != (j : Int) + 1) = true := bne_iff_ne.2 hn
            have HNO : Hid (readH b = none) := Lib.hid (readH_bad HP.out hlt (by rw [okAt_iff HLJ.out]; simp [hn]))
            clear hn
            have hrg := hd_range HS5.out.hd
            have q1 := aggOk_mk hrg (hdCells_len _)
            have q2 := loadN_eq hrg (hdCells_len _)
            clear hrg
            go_wp2_with (refine wpList_store_rowTo rfl 25 (.tmp 2) (.tmp 44) rfl rfl g (hdCells (hdPart [] 0)).toArray rfl rfl _ _ HS5.out.box (hd_szI _) (hd_szE _ _) (all_one _ (hdCells_one _)) ?_)
            generalize hwz : World.setRow _ _ _ = wz
            have hz : Below w.heap.size w wz ∧ Blk wz g 25 (hdCells (hdPart [] 0)).toArray := by
              rw [← hwz]
              exact row_step HS5.out.bel HGG.out HS5.out.box _
            clear hwz
            refine bodyPost_ret (results_cell_tmp rfl _ _ g _ _ (0, 0) _ rfl hz.2 Try.underlying25 rfl (hd_szI _)) rfl ⟨hz.1, ?_⟩
            rw [HNO.out]
            exact ⟨_, rfl⟩
        · obtain rfl : j = 7 := by omega
          have t1 : ¬ ((7 : Nat) : Int) < 7 := by omega
          obtain ⟨wa, hwa⟩ : ∃ wa, wr = wa := ⟨_, rfl⟩
          rw [hwa] at HSR ⊢
          clear hwa
          have hix := index_p3 gh 0 1 2
          have HIX := Lib.hid hix
          clear hix
          go_upto_region 12 with (fail)
          go_loopw [50] (fun i wr => ∃ j : Nat, i = .int .i64 (j : Int) ∧ j ≤ 3 ∧ RdSt w g gh (hdPart l j) (.slice A0 7 c0) items wr ∧ ∀ (i : Nat), i < j → okAt l i = true) (fun i _ => 3 - (intOf i).toNat)
          case atStart => exact ⟨0, rfl, by omega, HSR.out, fun i hi => by omega⟩
          case round =>
            obtain ⟨j, rfl, hj, hst, hoks⟩ := hrel
            have HSQ := Lib.hid hst
            have HOKS := Lib.hid hoks
            clear hst hoks HSR
            rcases Nat.lt_or_ge j 3 with hlt | hge
            · have t1 : (j : Int) < 3 := by omega
              have t0 : (0 : Int) ≤ (j : Int) := by omega
              have t7 : (j : Int) < 7 := by omega
              obtain ⟨gl, cl, hlv, f, Af, cf, hfi, hsf, d0, d1, d2, d3⟩ := HSQ.out.fs.at_ (k := j) (by rw [HIL.out]; omega)
              have hA0 : A0 = some ⟨gl, 0, none⟩ := by injection hlv
              subst hA0
              have hlj : l[j]? = some f := by rw [← HMAP.out, List.getElem?_map, hfi]; rfl
              have HLJ := Lib.hid hlj
              have hval64 : f.val < 2 ^ 64 := ((parse_inv _ b 0 l rfl (by omega) (by omega) HP.out).2.1 f (List.mem_of_getElem? hlj)).1.2.1
              obtain ⟨fl, hfl⟩ : ∃ fl, f.bytes.length = fl := ⟨_, rfl⟩
              rw [hfl] at d3
              have hidx : ∀ W, (Instr.index 73 (.agg #[.pointer (some ⟨gh, 0, none⟩), .pointer (some ⟨gh, 1, none⟩), .pointer (some ⟨gh, 2, none⟩)]) (.int .i64 (j : Int))).run Try.prog W = .ok (.pointer (some ⟨gh, j, none⟩)) W := by
                intro W
                match j, hlt with
                | 0, _ => exact (HIX.out W).1
                | 1, _ => exact (HIX.out W).2.1
                | 2, _ => exact (HIX.out W).2.2
              clear hlv hfi hsf hlj hfl hj
              go_wp2_with fail
              refine (number_any wr f (.slice Af fl cf) rfl hval64).mono ?_
              rintro e w5 ⟨⟨z, rfl, hz1, hz2⟩, hb5⟩
              have HS5 := Lib.hid (HSQ.out.below hb5)
              have HZ1 := Lib.hid hz1
              clear hb5 d0 d1 d2 d3 hidx HSQ hz1
              obtain ⟨R, hR⟩ : ∃ R, (decide (f.kind = 0) && decide (f.val < 2 ^ 63)) = R := ⟨_, rfl⟩
              rw [hR]
              have hok : okAt l j = R := by
                rw [okAt_iff HLJ.out, if_pos hlt, hR, HNU.out j f (by omega) HLJ.out]
                simp
              have HOK := Lib.hid hok
              have HRR := Lib.hid hR
              clear hok hR
              cases R with
              | false =>
                have HNO : Hid (readH b = none) := Lib.hid (readH_bad HP.out (i := j) (by omega) HOK.out)
                have hrg := hd_range HS5.out.hd
                have q1 := aggOk_mk hrg (hdCells_len _)
                have q2 := loadN_eq hrg (hdCells_len _)
                clear hrg
                go_wp2_with (refine wpList_store_rowTo rfl 25 (.tmp 2) (.tmp 64) rfl rfl g (hdCells (hdPart l j)).toArray rfl rfl _ _ HS5.out.box (hd_szI _) (hd_szE _ _) (all_one _ (hdCells_one _)) ?_)
                generalize hwz : World.setRow _ _ _ = wz
                have hz : Below w.heap.size w wz ∧ Blk wz g 25 (hdCells (hdPart l j)).toArray := by
                  rw [← hwz]
                  exact row_step HS5.out.bel HGG.out HS5.out.box _
                clear hwz
                refine bodyPost_ret (results_cell_tmp rfl _ _ g _ _ (0, 0) _ rfl hz.2 Try.underlying25 rfl (hd_szI _)) rfl ⟨hz.1, ?_⟩
                rw [HNO.out]
                exact ⟨_, rfl⟩
              | true =>
                have hv63 : f.val < 2 ^ 63 := by have h := HRR.out; simp at h; omega
                obtain rfl := HZ1.out hv63
                have HVA : Hid (valAt l j = (f.val : Int)) := Lib.hid (by unfold valAt; rw [HLJ.out])
                obtain ⟨vo, hco⟩ : ∃ vo, w5.cell? ⟨gh, j, none⟩ = some vo := by
                  have hl : j < (hdCells (hdPart l j)).toArray.size := by rw [List.size_toArray, hdCells_len]; omega
                  exact ⟨_, (HS5.out.hd.cell j).trans (Array.getElem?_eq_getElem hl)⟩
                have hfo := HS5.out.hd.frozen j
                have HSN := Lib.hid (HS5.out.setN HNE.out HGE.out hlt (f.val : Int))
                clear hv63
                go_wp2_with fail
                go_roundw
                case rel =>
                  refine ⟨j + 1, by go_num, by omega, ?_, fun i hi => ?_⟩
                  · have h := HSN.out
                    rw [← HVA.out, ← hdPart_num l hlt] at h
                    rw [← HVA.out]
                    exact h
                  · rcases Nat.lt_or_ge i j with h | h
                    · exact HOKS.out i h
                    · obtain rfl : i = j := by omega
                      exact HOK.out
                case measure => simp [intOf]; omega
            · obtain rfl : j = 3 := by omega
              have t1 : ¬ ((3 : Nat) : Int) < 3 := by omega
              obtain ⟨wb, hwb⟩ : ∃ wb, wr = wb := ⟨_, rfl⟩
              rw [hwb] at HSQ ⊢
              clear hwb HIX
              have hix := index_p4 gh 3 35 67 99
              have HIX := Lib.hid hix
              clear hix
              go_upto_region 20 with (fail)
              go_loopw [74] (fun i wr => ∃ j : Nat, i = .int .i64 (j : Int) ∧ j ≤ 4 ∧ RdSt w g gh (hdPart l (3 + j)) (.slice A0 7 c0) items wr ∧ ∀ (i : Nat), i < 3 + j → okAt l i = true) (fun i _ => 4 - (intOf i).toNat)
              case atStart => exact ⟨0, rfl, by omega, HSQ.out, HOKS.out⟩
              case round =>
                obtain ⟨j, rfl, hj, hst, hoks⟩ := hrel
                have HSP := Lib.hid hst
                have HOKT := Lib.hid hoks
                clear hst hoks HSQ HOKS
                rcases Nat.lt_or_ge j 4 with hlt | hge
                · have t1 : (j : Int) < 4 := by omega
                  have t0 : (0 : Int) ≤ 3 + (j : Int) := by omega
                  have t7 : 3 + (j : Int) < 7 := by omega
                  have g1 : IntKind.i64.wrap (3 + (j : Int)) = 3 + (j : Int) := IntWalk.i64_in _ (by omega)
                  have g2 : (3 + (j : Int)).toNat = 3 + j := by omega
                  obtain ⟨gl, cl, hlv, f, Af, cf, hfi, hsf, d0, d1, d2, d3⟩ := HSP.out.fs.at_ (k := 3 + j) (by rw [HIL.out]; omega)
                  have hA0 : A0 = some ⟨gl, 0, none⟩ := by injection hlv
                  subst hA0
                  have hlj : l[3 + j]? = some f := by rw [← HMAP.out, List.getElem?_map, hfi]; rfl
                  have HLJ := Lib.hid hlj
                  obtain ⟨fl, hfl⟩ : ∃ fl, f.bytes.length = fl := ⟨_, rfl⟩
                  rw [hfl] at d3 hsf
                  have HSF := Lib.hid hsf
                  have hidx : ∀ W, (Instr.index 77 (.agg #[.pointer (some ⟨gh, 3, none⟩), .pointer (some ⟨gh, 35, none⟩), .pointer (some ⟨gh, 67, none⟩), .pointer (some ⟨gh, 99, none⟩)]) (.int .i64 (j : Int))).run Try.prog W = .ok (.pointer (some ⟨gh, 3 + j * 32, none⟩)) W := by
                    intro W
                    match j, hlt with
                    | 0, _ => exact (HIX.out W).1
                    | 1, _ => exact (HIX.out W).2.1
                    | 2, _ => exact (HIX.out W).2.2.1
                    | 3, _ => exact (HIX.out W).2.2.2
                  have HFL := Lib.hid hfl
                  clear hlv hfi hsf hlj hfl hj
                  go_wp2_with fail
                  refine (digest_any wr f (.slice Af fl cf) HSF.out).mono ?_
                  rintro e w5 ⟨⟨k, rfl, hk1⟩, hb5⟩
                  have HS5 := Lib.hid (HSP.out.below hb5)
                  have HKK := Lib.hid hk1
                  clear hb5 d0 d1 d2 d3 hidx HSP hk1
                  obtain ⟨R, hR⟩ : ∃ R, (decide (f.kind = 2) && decide (f.bytes.length = 32)) = R := ⟨_, rfl⟩
                  rw [hR]
                  have hok : okAt l (3 + j) = R := by
                    rw [okAt_iff HLJ.out, if_neg (by omega), hR, HNU.out (3 + j) f (by omega) HLJ.out]
                    simp
                  have HOK := Lib.hid hok
                  have HRR := Lib.hid hR
                  clear hok hR
                  go_upto_region 23 with (refine wpList_store_rowTo rfl 23 (.tmp 16) (.tmp 85) rfl rfl w5.heap.size (bytesOf 32 k).toArray rfl rfl _ _ (heap_alloc_new _ _) (by rw [keyV_size]; kernel_rfl) (by rw [keyV_size]; kernel_rfl) (keyV_one _) ?_)
                  generalize hw6 : World.setRow _ _ _ = w6
                  have h6 : Below w5.heap.size w5 w6 ∧ Blk w6 w5.heap.size 23 (bytesOf 32 k).toArray := by
                    rw [← hw6]
                    exact row_step ((Below.refl _ _).alloc (Nat.le_refl _) _) (Nat.le_refl _) (heap_alloc_new _ _) _
                  have HS6 := Lib.hid (HS5.out.below h6.1)
                  have HK6 := Lib.hid h6.2
                  clear hw6 h6 HS5
                  cases R with
                  | false =>
                    have HNO : Hid (readH b = none) := Lib.hid (readH_bad HP.out (i := 3 + j) (by omega) HOK.out)
                    have hrg := hd_range HS6.out.hd
                    have q1 := aggOk_mk hrg (hdCells_len _)
                    have q2 := loadN_eq hrg (hdCells_len _)
                    clear hrg
                    go_wp2_with (refine wpList_store_rowTo rfl 25 (.tmp 2) (.tmp 89) rfl rfl g (hdCells (hdPart l (3 + j))).toArray rfl rfl _ _ HS6.out.box (hd_szI _) (hd_szE _ _) (all_one _ (hdCells_one _)) ?_)
                    generalize hwz : World.setRow _ _ _ = wz
                    have hz : Below w.heap.size w wz ∧ Blk wz g 25 (hdCells (hdPart l (3 + j))).toArray := by
                      rw [← hwz]
                      exact row_step HS6.out.bel HGG.out HS6.out.box _
                    clear hwz
                    refine bodyPost_ret (results_cell_tmp rfl _ _ g _ _ (0, 0) _ rfl hz.2 Try.underlying25 rfl (hd_szI _)) rfl ⟨hz.1, ?_⟩
                    rw [HNO.out]
                    exact ⟨_, rfl⟩
                  | true =>
                    have hkf : bytesOf 32 k = bytesOf 32 (keyFld l (3 + j)) := by
                      refine bytesOf_congr (fun i hi => ?_)
                      have h := HRR.out
                      simp at h
                      rw [HKK.out h.2 h.1 i hi]
                      unfold keyFld
                      rw [HLJ.out]
                    rw [hkf] at HK6
                    have HKF := Lib.hid hkf
                    clear hkf
                    obtain ⟨kk, hkk⟩ : ∃ kk, keyFld l (3 + j) = kk := ⟨_, rfl⟩
                    rw [hkk] at HK6
                    have HKE := Lib.hid hkk
                    have l1 := keyOk_mk (blk_key HK6.out)
                    have l2 := loadK_eq (blk_key HK6.out)
                    have qs : StoOk 32 w6 (.pointer (some ⟨gh, 3 + j * 32, none⟩)) (.agg (bytesOf 32 kk).toArray) := ⟨gh, 3 + j * 32, _, rfl, rfl, bytesOf_length _ _, blk_there HS6.out.hd (by rw [List.size_toArray, hdCells_len]; omega), bytesOf_one _ _⟩
                    have HSN := Lib.hid (HS6.out.setK HNE.out HGE.out hlt kk)
                    clear hkk
                    go_upto_region 26 with (fail)
                    generalize hw7 : storeMid _ _ _ = w7
                    have HS7 : Hid (RdSt w g gh (hdPart l (3 + (j + 1))) _ items w7) := Lib.hid (by
                      have h := HSN.out
                      rw [← HKE.out, ← hdPart_key l hlt] at h
                      rw [storeMid_eq] at hw7
                      rw [← hw7, ← HKE.out]
                      exact h)
                    clear hw7 l1 l2 qs HSN HS6
                    go_wp2_with fail
                    go_roundw
                    case rel =>
                      refine ⟨j + 1, by go_num, by omega, HS7.out, fun i hi => ?_⟩
                      rcases Nat.lt_or_ge i (3 + j) with h | h
                      · exact HOKT.out i h
                      · obtain rfl : i = 3 + j := by omega
                        exact HOK.out
                    case measure => simp [intOf]; omega
                · obtain rfl : j = 4 := by omega
                  have t1 : ¬ ((4 : Nat) : Int) < 4 := by omega
                  have HYES : Hid (readH b = some (hdPart l 7)) := Lib.hid (readH_good HP.out HLL.out HOKT.out)
                  have HS7 : Hid (RdSt w g gh (hdPart l 7) (.slice A0 7 c0) items wr) := HSP
                  clear HSP
                  have hrg := hd_range HS7.out.hd
                  have q1 := aggOk_mk hrg (hdCells_len _)
                  have q2 := loadN_eq hrg (hdCells_len _)
                  clear hrg
                  go_wp2_with (refine wpList_store_rowTo rfl 25 (.tmp 2) (.tmp 94) rfl rfl g (hdCells (hdPart l 7)).toArray rfl rfl _ _ HS7.out.box (hd_szI _) (hd_szE _ _) (all_one _ (hdCells_one _)) ?_)
                  generalize hwz : World.setRow _ _ _ = wz
                  have hz : Below w.heap.size w wz ∧ Blk wz g 25 (hdCells (hdPart l 7)).toArray := by
                    rw [← hwz]
                    exact row_step HS7.out.bel HGG.out HS7.out.box _
                  clear hwz
                  refine bodyPost_ret (results_cell_tmp rfl _ _ g _ _ (0, 0) _ rfl hz.2 Try.underlying25 rfl (hd_szI _)) rfl ⟨hz.1, ?_⟩
                  rw [HYES.out]
                  rfl
    · have t7 : ((il : Int) == 7) = false := beq_eq_false_iff_ne.2 (by omega)
      have t7b : ((il : Int) != 7) = true := bne_iff_ne.2 (by omega)
      have HNO : Hid (readH b = none) := Lib.hid (readH_len HP.out (by rw [HLL.out]; exact h7))
      clear h7
      have hrg := hd_range HST.out.hd
      have q1 := aggOk_mk hrg (hdCells_len _)
      have q2 := loadN_eq hrg (hdCells_len _)
      clear hrg
      go_wp2_with (refine wpList_store_rowTo rfl 25 (.tmp 2) (.tmp 31) rfl rfl g (hdCells (hdPart [] 0)).toArray rfl rfl _ _ HST.out.box (hd_szI _) (hd_szE _ _) (all_one _ (hdCells_one _)) ?_)
      generalize hwz : World.setRow _ _ _ = wz
      have hz : Below w.heap.size w wz ∧ Blk wz g 25 (hdCells (hdPart [] 0)).toArray := by
        rw [← hwz]
        exact row_step HST.out.bel HGG.out HST.out.box _
      clear hwz
      refine bodyPost_ret (results_cell_tmp rfl _ _ g _ _ (0, 0) _ rfl hz.2 Try.underlying25 rfl (hd_szI _)) rfl ⟨hz.1, ?_⟩
      rw [HNO.out]
      exact ⟨_, rfl⟩
end Go.Proofs.Ytnhggaghidbniaa
