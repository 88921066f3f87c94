/- The reference's reading of a header message. -/
import Derived.Test.YtnhggaghidbniaaBlkS
import Derived.Test.YtnhggaghidbniaaBlkU
import Derived.BigRegion
namespace Go.Proofs.Ytnhggaghidbniaa
open Go.RowKit
set_option linter.unusedVariables false
set_option linter.unusedSimpArgs false
open Wir

/-! ### four keys in a box -/
def k4f (q : Nat → Ky) : List Value := k4 (q 0) (q 1) (q 2) (q 3)
def updQ (q : Nat → Ky) (j i : Nat) (b : UInt8) : Nat → Ky := fun m n => if m = j ∧ n = i then b else q m n
theorem k4f_len (q : Nat → Ky) : (k4f q).length = 128 := by unfold k4f k4; simp only [List.length_append, bytesOf_length]
theorem k4f_get (q : Nat → Ky) {j : Nat} (hj : j < 4) {i : Nat} (hi : i < 32) : (k4f q)[j * 32 + i]? = some (.int .u8 ((q j i).toNat : Int)) := by
  have hb : ∀ m, (bytesOf 32 (q m))[i]? = some (.int .u8 ((q m i).toNat : Int)) := fun m => bytesOf_get _ hi
  unfold k4f k4
  match j, hj with
  | 0, _ =>
    rw [List.getElem?_append_left (by rw [bytesOf_length]; omega), show 0 * 32 + i = i by omega]
    exact hb 0
  | 1, _ =>
    rw [List.getElem?_append_right (by rw [bytesOf_length]; omega), bytesOf_length, List.getElem?_append_left (by rw [bytesOf_length]; omega), show 1 * 32 + i - 32 = i by omega]
    exact hb 1
  | 2, _ =>
    rw [List.getElem?_append_right (by rw [bytesOf_length]; omega), bytesOf_length, List.getElem?_append_right (by rw [bytesOf_length]; omega), bytesOf_length, List.getElem?_append_left (by rw [bytesOf_length]; omega), show 2 * 32 + i - 32 - 32 = i by omega]
    exact hb 2
  | 3, _ =>
    rw [List.getElem?_append_right (by rw [bytesOf_length]; omega), bytesOf_length, List.getElem?_append_right (by rw [bytesOf_length]; omega), bytesOf_length, List.getElem?_append_right (by rw [bytesOf_length]; omega), bytesOf_length, show 3 * 32 + i - 32 - 32 - 32 = i by omega]
    exact hb 3
theorem k4f_set (q : Nat → Ky) {j : Nat} (hj : j < 4) {i : Nat} (hi : i < 32) (b : UInt8) : (k4f q).toArray.setIfInBounds (j * 32 + i) (.int .u8 (b.toNat : Int)) = (k4f (updQ q j i b)).toArray := by
  rw [List.setIfInBounds_toArray]
  congr 1
  refine List.ext_getElem? (fun n => ?_)
  rw [List.getElem?_set]
  rcases Nat.lt_or_ge n 128 with hn | hn
  · have e : n = n / 32 * 32 + n % 32 := by omega
    by_cases he : j * 32 + i = n
    · rw [if_pos he, if_pos (by rw [k4f_len]; omega), ← he, k4f_get _ hj hi]
      unfold updQ
      rw [if_pos ⟨rfl, rfl⟩]
    · rw [if_neg he, e, k4f_get q (j := n / 32) (by omega) (i := n % 32) (by omega), k4f_get _ (j := n / 32) (by omega) (i := n % 32) (by omega)]
      unfold updQ
      rw [if_neg (by rintro ⟨h1, h2⟩; omega)]
  · rw [if_neg (by omega), List.getElem?_eq_none (by rw [k4f_len]; exact hn), List.getElem?_eq_none (by rw [k4f_len]; exact hn)]
theorem k4f_congr {q q' : Nat → Ky} (h : ∀ m, m < 4 → ∀ n, n < 32 → q m n = q' m n) : k4f q = k4f q' := by
  unfold k4f k4
  rw [bytesOf_congr (h 0 (by omega)), bytesOf_congr (h 1 (by omega)), bytesOf_congr (h 2 (by omega)), bytesOf_congr (h 3 (by omega))]
/-- the keys copied so far: j whole ones, and i bytes of the next -/
def qAt (l : List Fld) (j i : Nat) : Nat → Ky := fun m n => if m < j ∨ (m = j ∧ n < i) then keyFld l (3 + m) n else 0
theorem qAt_step (l : List Fld) (j i : Nat) : updQ (qAt l j i) j i (keyFld l (3 + j) i) = qAt l j (i + 1) := by
  funext m n
  unfold updQ qAt
  by_cases h : m = j ∧ n = i
  · obtain ⟨rfl, rfl⟩ := h
    rw [if_pos ⟨rfl, rfl⟩, if_pos (.inr ⟨rfl, by omega⟩)]
  · rw [if_neg h]
    by_cases h2 : m < j ∨ (m = j ∧ n < i)
    · rw [if_pos h2, if_pos (by omega)]
    · rw [if_neg h2, if_neg (by omega)]
theorem qAt_next (l : List Fld) (j : Nat) : k4f (qAt l j 32) = k4f (qAt l (j + 1) 0) := k4f_congr fun m _ n hn => by
  unfold qAt
  by_cases h : m < j ∨ (m = j ∧ n < 32)
  · rw [if_pos h, if_pos (by omega)]
  · rw [if_neg h, if_neg (by omega)]
theorem qAt_zero (l : List Fld) : k4f (qAt l 0 0) = k4f (fun _ _ => 0) := k4f_congr fun m _ n _ => by unfold qAt; rw [if_neg (by omega)]
theorem qAt_all (l : List Fld) : k4f (qAt l 4 0) = k4f (fun m => keyFld l (3 + m)) := k4f_congr fun m hm n _ => by unfold qAt; rw [if_pos (by omega)]
theorem k40 : (Try.zeroCells71) = (k4f (fun _ _ => 0)).toArray := by kernel_rfl

/-! ### plainly -/
/-- field i can be read for a header (whatever its number and kind are) -/
def lenAt (l : List Fld) (i : Nat) : Bool := match l[i]? with | none => false | some f => if i < 3 then decide (f.val < 2 ^ 63) else decide (f.bytes.length = 32)
theorem lenAt_bad {b : List UInt8} {l : List Fld} (hp : parse b 0 = some l) {i : Nat} (hi : i < 7) (h : lenAt l i = false) : readH b = none := by
  refine readH_bad hp hi ?_
  unfold lenAt at h
  unfold okAt
  split at h
  · rename_i hn; rw [hn]
  · rename_i f hf
    rw [hf]
    simp only []
    by_cases h3 : i < 3
    · rw [if_pos h3] at h ⊢; rw [h]; simp
    · rw [if_neg h3] at h ⊢; rw [h]; simp
theorem readH_same {b : List UInt8} {l : List Fld} (h64 : b.length < 2 ^ 64) (hp : parse b 0 = some l) (hl : l.length = 7) (h : ∀ i, i < 7 → lenAt l i = true) :
    (headerB (hdPart l 7) = b → readH b = some (hdPart l 7)) ∧ (headerB (hdPart l 7) ≠ b → readH b = none) := by
  have hx : hdOf l = some (hdPart l 7) := by
    match l, hl with
    | [a, c, d, e, f, g, k], _ =>
      have h0 := h 0 (by omega)
      have h1 := h 1 (by omega)
      have h2 := h 2 (by omega)
      have h3 := h 3 (by omega)
      have h4 := h 4 (by omega)
      have h5 := h 5 (by omega)
      have h6 := h 6 (by omega)
      simp [lenAt] at h0 h1 h2 h3 h4 h5 h6
      unfold hdOf
      simp only []
      rw [if_pos ⟨h0, h1, h2, h3, h4, h5, h6⟩]
      rfl
  have hr := readH_ref h64 hp hx
  constructor
  · intro e
    unfold readH
    rw [hp]
    simp only []
    rw [if_pos (hr.1 e), hx]
  · intro e
    unfold readH
    rw [hp]
    simp only []
    rw [if_neg (fun hs => e (hr.2 hs))]
theorem hdPart_fits {l : List Fld} (h : ∀ i, i < 3 → lenAt l i = true) : (hdPart l 7).fits := by
  have hv : ∀ i, i < 3 → 0 ≤ valAt l i ∧ valAt l i ≤ 9223372036854775807 := fun i hi => by
    have := h i hi
    unfold lenAt at this
    unfold valAt
    cases hc : l[i]? with
    | none => rw [hc] at this; cases this
    | some f =>
      rw [hc] at this
      simp [hi] at this
      simp only []
      omega
  have h0 := hv 0 (by omega)
  have h1 := hv 1 (by omega)
  have h2 := hv 2 (by omega)
  unfold Hd.fits hdPart
  simp
  omega
/-- the numbers of the first fields lie there -/
def ValsAt (W : World) (gl : Nat) (a b c : Int) : Prop := W.cell? ⟨gl, 2, none⟩ = some (.int .u64 a) ∧ W.cell? ⟨gl, 6, none⟩ = some (.int .u64 b) ∧ W.cell? ⟨gl, 10, none⟩ = some (.int .u64 c)
theorem ValsAt.set_ {W : World} {gl gh : Nat} {a b c : Int} (h : ValsAt W gl a b c) (hne : gl ≠ gh) (i : Nat) (u : Value) : ValsAt (W.setCell ⟨gh, i, none⟩ u) gl a b c := by
  obtain ⟨h1, h2, h3⟩ := h
  refine ⟨?_, ?_, ?_⟩
  · rw [World.cell?_setCell_other _ _ _ _ (fun e => by injection e with e; exact hne e.symm)]; exact h1
  · rw [World.cell?_setCell_other _ _ _ _ (fun e => by injection e with e; exact hne e.symm)]; exact h2
  · rw [World.cell?_setCell_other _ _ _ _ (fun e => by injection e with e; exact hne e.symm)]; exact h3
theorem RdSt.cell {w wr : World} {g gh : Nat} {y : Hd} {lv : Value} {items : List FItem} (h : RdSt w g gh y lv items wr) {j : Nat} (hj : j < 131) : ∃ vo, wr.cell? ⟨gh, j, none⟩ = some vo := by
  have hl : j < (hdCells y).toArray.size := by rw [List.size_toArray, hdCells_len]; exact hj
  exact ⟨_, (h.hd.cell j).trans (Array.getElem?_eq_getElem hl)⟩
/-- four keys lie there -/
def KeysIn (W : World) (g9 : Nat) (q : Nat → Ky) : Prop := W.rangeAt g9 0 (bytesOf 32 (q 0)) ∧ W.rangeAt g9 32 (bytesOf 32 (q 1)) ∧ W.rangeAt g9 64 (bytesOf 32 (q 2)) ∧ W.rangeAt g9 96 (bytesOf 32 (q 3))
theorem KeysIn.of_blk {W : World} {g9 : Nat} {q : Nat → Ky} (h : Blk W g9 71 (k4f q).toArray) : KeysIn W g9 q := by
  have hh : ∀ j, j < 4 → W.rangeAt g9 (j * 32) (bytesOf 32 (q j)) := fun j hj i u hu => by
    have hi := (List.getElem?_eq_some_iff.1 hu).1
    rw [bytesOf_length] at hi
    rw [bytesOf_get _ hi] at hu
    injection hu with hu
    subst hu
    rw [h.cell]
    exact List.getElem?_toArray.trans (k4f_get q hj hi)
  exact ⟨hh 0 (by omega), hh 1 (by omega), hh 2 (by omega), hh 3 (by omega)⟩
theorem OwnFs.only9 {w w' : World} {base gh : Nat} {lv : Value} {items : List FItem} {cs : Array Value} (h : OwnFs w base lv items) (hk : Blk w gh 71 cs) (ho : Only (fun k => k = gh) w w') : OwnFs w' base lv items := by
  have h1 : w.ownsRow base 50 4 lv items.length (fldsOf items) := h.row
  refine ⟨owns_only h1 ho (fun k e1 e2 => own_blk_ne h1 hk (by decide) (e2 ▸ e1)), fun x hx => ?_⟩
  have h2 : w.ownsRow base 5 1 x.v x.f.bytes.length (bytesL x.f.bytes) := h.byt x hx
  exact owns_only h2 ho (fun k e1 e2 => own_blk_ne h2 hk (by decide) (e2 ▸ e1))
theorem RdSt.set9 {w wr : World} {g gh g9 : Nat} {y : Hd} {lv : Value} {items : List FItem} (h : RdSt w g gh y lv items wr) (n1 : g9 ≠ g) (n2 : g9 ≠ gh) (n3 : w.heap.size ≤ g9) {cs : Array Value} (hk : Blk wr g9 71 cs) (i : Nat) (u : Value) : RdSt w g gh y lv items (wr.setCell ⟨g9, i, none⟩ u) :=
  ⟨h.bel.setCell n3 _, h.box.far (fun e => n1 e.symm) _, h.hd.far (fun e => n2 e.symm) _, h.fs.only9 hk ((Only.refl (fun k => k = g9) wr).setCell_ (p := ⟨g9, i, none⟩) (.inl rfl) _)⟩
def HdIn (W : World) (gh : Nat) : Prop := ∃ y, Blk W gh 25 (hdCells y).toArray
theorem KeysIn.store {W : World} {g9 gh : Nat} {q : Nat → Ky} (h : KeysIn W g9 q) (hne : g9 ≠ gh) (o : Nat) (k : Ky) : KeysIn (storeMid W (.pointer (some ⟨gh, o, none⟩)) (.agg (bytesOf 32 k).toArray)) g9 q := by
  have ho : Only (fun x => x = gh) W (storeMid W (.pointer (some ⟨gh, o, none⟩)) (.agg (bytesOf 32 k).toArray)) := by rw [storeMid_eq]; exact setCells_only _ W gh _ _ (.inl rfl)
  have hh : ∀ (off : Nat) (k' : Ky), W.rangeAt g9 off (bytesOf 32 k') → (storeMid W (.pointer (some ⟨gh, o, none⟩)) (.agg (bytesOf 32 k).toArray)).rangeAt g9 off (bytesOf 32 k') := fun off k' hr j u hu =>
    (ho.cell (p := ⟨g9, off + j, none⟩) (World.block_lt_of_cell? W _ (hr j u hu)) hne).trans (hr j u hu)
  exact ⟨hh _ _ h.1, hh _ _ h.2.1, hh _ _ h.2.2.1, hh _ _ h.2.2.2⟩
theorem HdIn.store {W : World} {gh : Nat} (h : HdIn W gh) {j : Nat} (hj : j < 4) (k : Ky) : HdIn (storeMid W (.pointer (some ⟨gh, 3 + j * 32, none⟩)) (.agg (bytesOf 32 k).toArray)) gh := by
  obtain ⟨y, hk⟩ := h
  refine ⟨putK y j k, ?_⟩
  rw [storeMid_eq]
  have h1 := setCells_blk (t := 25) (bytesOf 32 k) (3 + j * 32) _ W hk (by rw [bytesOf_length, List.size_toArray, hdCells_len]; omega)
  unfold Blk
  rw [h1, bytesOf_length, ← hdCells_putK y hj k]
theorem HdIn.sto {W : World} {gh : Nat} (h : HdIn W gh) {o : Nat} (ho : o + 32 ≤ 131) (k : Ky) : StoOk 32 W (.pointer (some ⟨gh, o, none⟩)) (.agg (bytesOf 32 k).toArray) := by
  obtain ⟨y, hk⟩ := h
  exact ⟨gh, o, _, rfl, rfl, bytesOf_length _ _, blk_there hk (by rw [List.size_toArray, hdCells_len]; exact ho), bytesOf_one _ _⟩
theorem KeysIn.ok {W : World} {g9 : Nat} {q : Nat → Ky} (h : KeysIn W g9 q) :
    (KeyOk W (.pointer (some ⟨g9, 0, none⟩)) ∧ KeyOk W (.pointer (some ⟨g9, 32, none⟩)) ∧ KeyOk W (.pointer (some ⟨g9, 64, none⟩)) ∧ KeyOk W (.pointer (some ⟨g9, 96, none⟩))) ∧
    loadK W (.pointer (some ⟨g9, 0, none⟩)) = keyV (q 0) ∧ loadK W (.pointer (some ⟨g9, 32, none⟩)) = keyV (q 1) ∧ loadK W (.pointer (some ⟨g9, 64, none⟩)) = keyV (q 2) ∧ loadK W (.pointer (some ⟨g9, 96, none⟩)) = keyV (q 3) := by
  have hh : ∀ (off : Nat) (k' : Ky), W.rangeAt g9 off (bytesOf 32 k') → ∀ j u, (bytesOf 32 k')[j]? = some u → W.cell? ((⟨g9, off, none⟩ : Addr).add j) = some u := fun off k' hr j u hu => by rw [add_flat]; exact hr j u hu
  obtain ⟨h0, h1, h2, h3⟩ := h
  exact ⟨⟨keyOk_mk (hh _ _ h0), keyOk_mk (hh _ _ h1), keyOk_mk (hh _ _ h2), keyOk_mk (hh _ _ h3)⟩, loadK_eq (hh _ _ h0), loadK_eq (hh _ _ h1), loadK_eq (hh _ _ h2), loadK_eq (hh _ _ h3)⟩
theorem key_sizeB (k : Ky) : (Try.prog.info? 23).map (·.size) = some (bytesOf 32 k).length := by rw [bytesOf_length]; kernel_rfl
theorem hd_sizeB (y : Hd) : (Try.prog.info? 25).map (·.size) = some (hdCells y).length := by rw [hdCells_len]; kernel_rfl
set_option maxRecDepth 100000 in
set_option maxHeartbeats 16000000 in
attribute [local go_sem ↓] wp_load_hd wp_load_k wp_store_ky wp_store_hd in
theorem rreadHeader_any (w : World) (v : Value) (b : List UInt8) (hs : SeeB w v b) (hb : b.length ≤ 1073741824) :
    Calls Try.prog 31 #[v] w (HdOut w (readH b)) := by
  have HS := Lib.hid hs
  clear hs
  go_enter Try.func31, Try.ntmps31
  go_upto_region 1 with (fail)
  generalize hw1 : World.alloc _ _ = w1
  have hb1 : Below w.heap.size w w1 := by rw [← hw1]; exact (Below.refl _ _).alloc (Nat.le_refl _) _
  have hk1 : Blk w1 w.heap.size 25 (hdCells (hdPart [] 0)).toArray := by rw [← hw1, ← hd0]; exact heap_alloc_new _ _
  obtain ⟨g, hg⟩ : ∃ g, w.heap.size = g := ⟨_, rfl⟩
  rw [hg] at hk1 ⊢
  have HGG : Hid (w.heap.size ≤ g) := Lib.hid (by omega)
  have HS1 := Lib.hid (HS.out.below hb1)
  have HB1 := Lib.hid hb1
  have HK1 := Lib.hid hk1
  clear hw1 hb1 hk1 hg
  go_wp2_with fail
  refine (rfields_any w1 v b HS1.out hb).mono ?_
  rintro e w2 ⟨hb2, he2⟩
  have HB2 := Lib.hid (HB1.out.trans (hb2.mono HB1.out.size))
  have HK2 := Lib.hid (HK1.out.below hb2 HK1.out.lt)
  have hz1 := HB1.out.size
  have mk : ∀ (lv : Value) (items : List FItem), OwnFs w2 w1.heap.size lv items → ∀ w3, w3 = w2.alloc (.cells Try.zeroCells25 25) → RdSt w g w2.heap.size (hdPart [] 0) lv items w3 := fun lv items ho w3 e => by
    subst e
    have hbl : Below w2.heap.size w2 (w2.alloc (.cells Try.zeroCells25 25)) := (Below.refl _ _).alloc (Nat.le_refl _) _
    refine ⟨HB2.out.trans (hbl.mono HB2.out.size), HK2.out.below hbl HK2.out.lt, ?_, (ho.less hz1).below hbl⟩
    rw [← hd0]
    exact heap_alloc_new _ _
  have HMK := Lib.hid mk
  obtain ⟨gh, hgh⟩ : ∃ gh, w2.heap.size = gh := ⟨_, rfl⟩
  have hne : g ≠ gh := by have := HK2.out.lt; omega
  have HNE := Lib.hid hne
  have HGE : Hid (w.heap.size ≤ gh) := Lib.hid (by have := HB2.out.size; omega)
  clear mk hb2 hne hz1 HK1 HB1
  cases hp : parse b 0 with
  | none =>
    rw [hp] at he2
    obtain ⟨at_, c, hc, rfl⟩ := he2
    have t1 : (c == 0) = false := beq_eq_false_iff_ne.2 hc
    have t1b : (c != 0) = true := bne_iff_ne.2 hc
    have HP := Lib.hid (readH_no hp)
    clear hp
    go_upto_region 3 with (fail)
    generalize hw3 : World.alloc _ _ = w3
    have HST := Lib.hid (HMK.out _ _ (OwnFs.nil _ _) w3 hw3.symm)
    rw [hgh] at HST
    clear hw3 hgh
    have hrg := hd_range HST.out.hd
    have q1 := aggOk_mk hrg (hdCells_len _)
    have q2 := loadN_eq hrg (hdCells_len _)
    clear hrg
    go_wp2_with (refine wpList_store_rowTo rfl 25 (.tmp 2) (.tmp 25) rfl rfl g (hdCells (hdPart [] 0)).toArray rfl rfl _ _ HST.out.box (hd_szI _) (hd_szE _ _) (all_one _ (hdCells_one _)) ?_)
    generalize hwz : World.setRow _ _ _ = wz
    have hz : Below w.heap.size w wz ∧ Blk wz g 25 (hdCells (hdPart [] 0)).toArray := by
      rw [← hwz]
      exact row_step HST.out.bel HGG.out HST.out.box _
    clear hwz
    refine bodyPost_ret (results_cell_tmp rfl _ _ g _ _ (0, 0) _ rfl hz.2 Try.underlying25 rfl (hd_szI _)) rfl ⟨hz.1, ?_⟩
    rw [HP.out]
    exact ⟨_, rfl⟩
  | some l =>
    rw [hp] at he2
    obtain ⟨lv, items, rfl, hfs, hmap⟩ := he2
    have HP := Lib.hid hp
    have HMAP := Lib.hid hmap
    obtain ⟨A0, c0, hlv⟩ := own_form (show w2.ownsRow w1.heap.size 50 4 lv _ _ from hfs.row)
    subst hlv
    obtain ⟨il, hil⟩ : ∃ il, items.length = il := ⟨_, rfl⟩
    rw [hil] at hfs ⊢
    have hll : l.length = il := by rw [← hmap, List.length_map, hil]
    have HIL := Lib.hid hil
    have HLL := Lib.hid hll
    go_upto_region 3 with (fail)
    generalize hw3 : World.alloc _ _ = w3
    have HST := Lib.hid (HMK.out _ _ hfs w3 hw3.symm)
    rw [hgh] at HST
    clear hp hmap hfs hil hll hw3 hgh HMK
    by_cases h7 : il = 7
    · subst h7
      obtain ⟨gl, cl, hlv, _⟩ := HST.out.fs.at_ (k := 0) (by rw [HIL.out]; omega)
      have hA0 : A0 = some ⟨gl, 0, none⟩ := by injection hlv
      subst hA0
      have CEL : Hid (∀ y wr, RdSt w g gh y (.slice (some ⟨gl, 0, none⟩) 7 c0) items wr → ∀ k, k < 7 → ∃ (f : Fld) (A : Option Addr) (cu : Nat), l[k]? = some f ∧ SeeB wr (.slice A f.bytes.length cu) f.bytes ∧
          wr.cell? ⟨gl, k * 4 + 2, none⟩ = some (.int .u64 (f.val : Int)) ∧ wr.cell? ⟨gl, k * 4 + 3, none⟩ = some (.slice A f.bytes.length cu) ∧ OwnB wr w.heap.size (.slice A f.bytes.length cu) f.bytes) := Lib.hid (fun y wr h k hk => by
        obtain ⟨gl2, cl2, hlv2, f, Af, cf, hfi, hsf, d0, d1, d2, d3⟩ := h.fs.at_ (k := k) (by rw [HIL.out]; exact hk)
        have e : gl = gl2 := by injection hlv2 with e; injection e with e; injection e
        subst e
        exact ⟨f, Af, cf, by rw [← HMAP.out, List.getElem?_map, hfi]; rfl, hsf, d2, d3, h.fs.byt _ (List.mem_of_getElem? hfi)⟩)
      clear hlv
      go_wp2_with fail
      go_loopw [8] (fun i wr => ∃ j : Nat, i = .int .i64 (j : Int) ∧ j ≤ 3 ∧ RdSt w g gh (hdPart [] 0) (.slice (some ⟨gl, 0, none⟩) 7 c0) items wr ∧ ∀ (i : Nat), i < j → lenAt l i = true) (fun i _ => 3 - (intOf i).toNat)
      case atStart => exact ⟨0, rfl, by omega, HST.out, fun i hi => by omega⟩
      case round =>
        obtain ⟨j, rfl, hj, hst, hls⟩ := hrel
        have HSR := Lib.hid hst
        have HLS := Lib.hid hls
        clear hst hls HST
        rcases Nat.lt_or_ge j 3 with hlt | hge
        · have t1 : (j : Int) < 3 := by omega
          have t0 : (0 : Int) ≤ (j : Int) := by omega
          have t7 : (j : Int) < 7 := by omega
          obtain ⟨f, Af, cf, hlj, hsf, d2, d3, _⟩ := CEL.out _ wr HSR.out j (by omega)
          have g1 : IntKind.i64.wrap ((j : Int) + 1) = (j : Int) + 1 := IntWalk.i64_in _ (by omega)
          have HLJ := Lib.hid hlj
          clear hlj hsf d3 hj
          by_cases hv : f.val < 2 ^ 63
          · have t2 : ¬ (9223372036854775807 : Int) < (f.val : Int) := by omega
            have HV := Lib.hid hv
            clear hv
            go_wp2_with fail
            go_roundw
            case rel =>
              refine ⟨j + 1, by go_num, by omega, HSR.out, fun i hi => ?_⟩
              rcases Nat.lt_or_ge i j with h | h
              · exact HLS.out i h
              · obtain rfl : i = j := by omega
                unfold lenAt
                rw [HLJ.out]
                simp only []
                rw [if_pos hlt]
                exact decide_eq_true HV.out
            case measure => simp [intOf]; omega
          · have t2 : (9223372036854775807 : Int) < (f.val : Int) := by omega
            have HNO : Hid (readH b = none) := Lib.hid (lenAt_bad HP.out (i := j) (by omega) (by unfold lenAt; rw [HLJ.out]; simp only []; rw [if_pos hlt]; exact decide_eq_false hv))
            clear hv
            have hrg := hd_range HSR.out.hd
            have q1 := aggOk_mk hrg (hdCells_len _)
            have q2 := loadN_eq hrg (hdCells_len _)
            clear hrg
            go_wp2_with (refine wpList_store_rowTo rfl 25 (.tmp 2) (.tmp 36) rfl rfl g (hdCells (hdPart [] 0)).toArray rfl rfl _ _ HSR.out.box (hd_szI _) (hd_szE _ _) (all_one _ (hdCells_one _)) ?_)
            generalize hwz : World.setRow _ _ _ = wz
            have hz : Below w.heap.size w wz ∧ Blk wz g 25 (hdCells (hdPart [] 0)).toArray := by
              rw [← hwz]
              exact row_step HSR.out.bel HGG.out HSR.out.box _
            clear hwz
            refine bodyPost_ret (results_cell_tmp rfl _ _ g _ _ (0, 0) _ rfl hz.2 Try.underlying25 rfl (hd_szI _)) rfl ⟨hz.1, ?_⟩
            rw [HNO.out]
            exact ⟨_, rfl⟩
        · obtain rfl : j = 3 := by omega
          have t1 : ¬ ((3 : Nat) : Int) < 3 := by omega
          obtain ⟨wa, hwa⟩ : ∃ wa, wr = wa := ⟨_, rfl⟩
          rw [hwa] at HSR ⊢
          clear hwa
          obtain ⟨f0, _, _, hl0, _, v0, _, _⟩ := CEL.out _ wa HSR.out 0 (by omega)
          obtain ⟨f1, _, _, hl1, _, v1, _, _⟩ := CEL.out _ wa HSR.out 1 (by omega)
          obtain ⟨f2, _, _, hl2, _, v2, _, _⟩ := CEL.out _ wa HSR.out 2 (by omega)
          have w0 : valAt l 0 = (f0.val : Int) := by unfold valAt; rw [hl0]
          have w1' : valAt l 1 = (f1.val : Int) := by unfold valAt; rw [hl1]
          have w2' : valAt l 2 = (f2.val : Int) := by unfold valAt; rw [hl2]
          have b0 : f0.val < 2 ^ 63 := by have := HLS.out 0 (by omega); unfold lenAt at this; rw [hl0] at this; simpa using this
          have b1 : f1.val < 2 ^ 63 := by have := HLS.out 1 (by omega); unfold lenAt at this; rw [hl1] at this; simpa using this
          have b2 : f2.val < 2 ^ 63 := by have := HLS.out 2 (by omega); unfold lenAt at this; rw [hl2] at this; simpa using this
          have hvs : ValsAt wa gl (f0.val : Int) (f1.val : Int) (f2.val : Int) := ⟨v0, v1, v2⟩
          have HGL : Hid (gl ≠ gh) := Lib.hid (by
            intro e
            have h1 : wa.ownsRow w.heap.size 50 4 (.slice (some ⟨gl, 0, none⟩) 7 c0) items.length (fldsOf items) := HSR.out.fs.row
            exact own_blk_ne h1 HSR.out.hd (by decide) (by rw [e]; rfl))
          have HVS := Lib.hid hvs
          have HPART : Hid (hdPart l 3 = putN (putN (putN (hdPart [] 0) 0 (f0.val : Int)) 1 (f1.val : Int)) 2 (f2.val : Int)) := Lib.hid (by rw [← w0, ← w1', ← w2']; rfl)
          have x0 : IntKind.i64.wrap (f0.val : Int) = (f0.val : Int) := IntWalk.i64_in _ (by omega)
          have x1 : IntKind.i64.wrap (f1.val : Int) = (f1.val : Int) := IntWalk.i64_in _ (by omega)
          have x2 : IntKind.i64.wrap (f2.val : Int) = (f2.val : Int) := IntWalk.i64_in _ (by omega)
          clear v0 v1 v2 hl0 hl1 hl2 w0 w1' w2' b0 b1 b2 hvs
          go_upto_region 10 with (fail)
          obtain ⟨s1, s2, s3⟩ := HVS.out
          obtain ⟨z0, e0⟩ := HSR.out.cell (j := 0) (by omega)
          obtain ⟨z1, e1⟩ := HSR.out.cell (j := 1) (by omega)
          obtain ⟨z2, e2⟩ := HSR.out.cell (j := 2) (by omega)
          have k0 := HSR.out.hd.frozen 0
          have k1 := HSR.out.hd.frozen 1
          have k2 := HSR.out.hd.frozen 2
          have hgl := HGL.out
          go_region
          generalize hW : World.drew _ = wb
          have HSB : Hid (RdSt w g gh (hdPart l 3) (.slice (some ⟨gl, 0, none⟩) 7 c0) items wb) := Lib.hid (by
            rw [← hW, HPART.out]
            exact (((HSR.out.setN HNE.out HGE.out (j := 0) (by omega) _).setN HNE.out HGE.out (j := 1) (by omega) _).setN HNE.out HGE.out (j := 2) (by omega) _).below (belowDrewR (Below.refl _ _)))
          clear hW HVS HPART x0 x1 x2 HSR s1 s2 s3 e0 e1 e2 k0 k1 k2 hgl
          go_upto_region 12 with (fail)
          generalize hW : World.alloc _ _ = w9
          have h9 : Below wb.heap.size wb w9 ∧ Blk w9 wb.heap.size 71 (k4f (qAt l 0 0)).toArray := by
            rw [← hW]
            refine ⟨(Below.refl _ _).alloc (Nat.le_refl _) _, ?_⟩
            rw [qAt_zero, ← k40]
            exact heap_alloc_new _ _
          obtain ⟨g9, hg9⟩ : ∃ g9, wb.heap.size = g9 := ⟨_, rfl⟩
          have HS9 := Lib.hid (HSB.out.below h9.1)
          have h9k := h9.2
          rw [hg9] at h9k ⊢
          have HK9 := Lib.hid h9k
          have N1 : Hid (g9 ≠ g) := Lib.hid (by have := HSB.out.box.lt; omega)
          have N2 : Hid (g9 ≠ gh) := Lib.hid (by have := HSB.out.hd.lt; omega)
          have N3 : Hid (w.heap.size ≤ g9) := Lib.hid (by have := HSB.out.bel.size; omega)
          clear hW h9 hg9 h9k HSB
          go_wp2_with fail
          go_loopw [55] (fun i wr => ∃ j : Nat, i = .int .i64 (j : Int) ∧ j ≤ 4 ∧ RdSt w g gh (hdPart l 3) (.slice (some ⟨gl, 0, none⟩) 7 c0) items wr ∧ Blk wr g9 71 (k4f (qAt l j 0)).toArray ∧ ∀ (i : Nat), i < 3 + j → lenAt l i = true) (fun i _ => 4 - (intOf i).toNat)
          case atStart => exact ⟨0, rfl, by omega, HS9.out, HK9.out, HLS.out⟩
          case round =>
            obtain ⟨j, rfl, hj, hst, hk9, hls⟩ := hrel
            have HSQ := Lib.hid hst
            have HKQ := Lib.hid hk9
            have HLQ := Lib.hid hls
            clear hst hk9 hls HS9 HK9 HLS
            rcases Nat.lt_or_ge j 4 with hlt | hge
            · have t1 : (j : Int) < 4 := by omega
              have t0 : (0 : Int) ≤ (j : Int) := by omega
              have t3 : (0 : Int) ≤ (j : Int) + 3 := by omega
              have t7 : (j : Int) + 3 < 7 := by omega
              have g1 : IntKind.i64.wrap ((j : Int) + 3) = (j : Int) + 3 := IntWalk.i64_in _ (by omega)
              have g2 : ((j : Int) + 3).toNat = j + 3 := by omega
              obtain ⟨f, Af, cf, hlj, hsf, d2, d3, _⟩ := CEL.out _ wr HSQ.out (3 + j) (by omega)
              rw [Nat.add_comm 3 j] at d2 d3
              have HLJ := Lib.hid hlj
              obtain ⟨fl, hfl⟩ : ∃ fl, f.bytes.length = fl := ⟨_, rfl⟩
              rw [hfl] at d3
              have HFL := Lib.hid hfl
              have HFF := Lib.hid (rfl : f = f)
              clear hlj hfl hj d2
              by_cases h32 : fl = 32
              · subst h32
                have hok : lenAt l (3 + j) = true := by
                  unfold lenAt
                  rw [HLJ.out]
                  simp only []
                  rw [if_neg (by omega)]
                  exact decide_eq_true HFL.out
                have HOK := Lib.hid hok
                clear hsf hok
                go_wp2_with fail
                clear d3
                go_loopw [67] (fun x wq => ∃ i : Nat, x = .int .i64 (i : Int) ∧ i ≤ 32 ∧ RdSt w g gh (hdPart l 3) (.slice (some ⟨gl, 0, none⟩) 7 c0) items wq ∧ Blk wq g9 71 (k4f (qAt l j i)).toArray) (fun x _ => 32 - (intOf x).toNat)
                case atStart => exact ⟨0, rfl, by omega, HSQ.out, HKQ.out⟩
                case round =>
                  obtain ⟨i, rfl, hi, hst, hkw⟩ := hrel
                  have HSW := Lib.hid hst
                  have HKW := Lib.hid hkw
                  clear hst hkw HSQ HKQ
                  rcases Nat.lt_or_ge i 32 with hilt | hige
                  · have u1 : (i : Int) < 32 := by omega
                    have u0 : (0 : Int) ≤ (i : Int) := by omega
                    obtain ⟨f', A', c', hlj', hsf', d2', d3', hown⟩ := CEL.out _ wr HSW.out (3 + j) (by omega)
                    obtain rfl : f' = f := by rw [HLJ.out] at hlj'; injection hlj' with e; exact e.symm
                    rw [HFL.out, Nat.add_comm 3 j] at d3'
                    obtain ⟨A2, c2, he2, _, _, hrd⟩ := hsf'
                    rw [HFL.out] at he2 hrd hown
                    have hA2 : A' = A2 := by injection he2
                    subst hA2
                    obtain ⟨ad, hAf, hblt, hcl⟩ := hrd.2 (by omega)
                    subst hAf
                    have hbyt : wr.cell? (ad.add i) = some (.int .u8 ((keyFld l (3 + j) i).toNat : Int)) := by
                      refine hcl i _ ?_
                      have e : bytesL f'.bytes = bytesOf 32 (keyFld l (3 + j)) := by
                        rw [bytesL_of, HFL.out]
                        refine bytesOf_congr (fun n _ => ?_)
                        unfold keyFld
                        rw [HLJ.out]
                        rfl
                      rw [e]
                      exact bytesOf_get _ hilt
                    obtain ⟨by_, hby⟩ : ∃ by_ : UInt8, keyFld l (3 + j) i = by_ := ⟨_, rfl⟩
                    rw [hby] at hbyt
                    have hne9 : ad.block ≠ g9 := fun e => own_blk_ne (show wr.ownsRow w.heap.size 5 1 _ _ _ from hown) HKW.out (by decide) (by rw [← e]; rfl)
                    have hgl9 : gl ≠ g9 := fun e => own_blk_ne (show wr.ownsRow w.heap.size 50 4 _ _ _ from HSW.out.fs.row) HKW.out (by decide) (by rw [← e]; rfl)
                    obtain ⟨vo, hco⟩ : ∃ vo, wr.cell? ⟨g9, j * 32 + i, none⟩ = some vo := by
                      have hl : j * 32 + i < (k4f (qAt l j i)).toArray.size := by rw [List.size_toArray, k4f_len]; omega
                      exact ⟨_, (HKW.out.cell (j * 32 + i)).trans (Array.getElem?_eq_getElem hl)⟩
                    have hfo := HKW.out.frozen (j * 32 + i)
                    have HST4 := Lib.hid (HKW.out.set_ (j * 32 + i) (.int .u8 (by_.toNat : Int)))
                    have HBYY := Lib.hid hby
                    clear hlj' d2' he2 hrd hblt hcl hown hby hne9 hgl9
                    go_upto_region 20 with (fail)
                    go_region
                    generalize hW : World.drew _ = wx
                    have HSX : Hid (RdSt w g gh (hdPart l 3) (.slice (some ⟨gl, 0, none⟩) 7 c0) items wx) := Lib.hid (by
                      rw [← hW]
                      exact (HSW.out.set9 N1.out N2.out N3.out HKW.out _ _).below (belowDrewR (Below.refl _ _)))
                    have HKX : Hid (Blk wx g9 71 (k4f (qAt l j (i + 1))).toArray) := Lib.hid (by
                      rw [← hW, ← qAt_step, ← k4f_set _ hlt hilt, HBYY.out]
                      exact HST4.out)
                    clear hW HST4 hfo hco d3' hbyt HSW HKW
                    go_wp2_with fail
                    go_roundw
                    case rel => exact ⟨i + 1, by go_num, by omega, HSX.out, HKX.out⟩
                    case measure => simp [intOf]; omega
                  · obtain rfl : i = 32 := by omega
                    have u1 : ¬ ((32 : Nat) : Int) < 32 := by omega
                    go_wp2_with fail
                    go_roundw
                    case rel =>
                      refine ⟨j + 1, by go_num, by omega, HSW.out, by rw [← qAt_next]; exact HKW.out, fun i hi => ?_⟩
                      rcases Nat.lt_or_ge i (3 + j) with h | h
                      · exact HLQ.out i h
                      · obtain rfl : i = 3 + j := by omega
                        exact HOK.out
                    case measure => simp [intOf]; omega
              · have t32 : ((fl : Int) == 32) = false := beq_eq_false_iff_ne.2 (by omega)
                have t32b : ((fl : Int) != 32) = true := bne_iff_ne.2 (by omega)
                have HNO : Hid (readH b = none) := Lib.hid (lenAt_bad HP.out (i := 3 + j) (by omega) (by
                  unfold lenAt
                  rw [HLJ.out]
                  simp only []
                  rw [if_neg (by omega)]
                  exact decide_eq_false (by rw [HFL.out]; exact h32)))
                clear h32 hsf
                have hrg := hd_range HSQ.out.hd
                have q1 := aggOk_mk hrg (hdCells_len _)
                have q2 := loadN_eq hrg (hdCells_len _)
                clear hrg
                go_wp2_with (refine wpList_store_rowTo rfl 25 (.tmp 2) (.tmp 66) rfl rfl g (hdCells (hdPart l 3)).toArray rfl rfl _ _ HSQ.out.box (hd_szI _) (hd_szE _ _) (all_one _ (hdCells_one _)) ?_)
                generalize hwz : World.setRow _ _ _ = wz
                have hz : Below w.heap.size w wz ∧ Blk wz g 25 (hdCells (hdPart l 3)).toArray := by
                  rw [← hwz]
                  exact row_step HSQ.out.bel HGG.out HSQ.out.box _
                clear hwz
                refine bodyPost_ret (results_cell_tmp rfl _ _ g _ _ (0, 0) _ rfl hz.2 Try.underlying25 rfl (hd_szI _)) rfl ⟨hz.1, ?_⟩
                rw [HNO.out]
                exact ⟨_, rfl⟩
            · obtain rfl : j = 4 := by omega
              have t1 : ¬ ((4 : Nat) : Int) < 4 := by omega
              have hq := HKQ.out
              rw [qAt_all] at hq
              have hki := KeysIn.of_blk hq
              obtain ⟨q, hqq⟩ : ∃ q : Nat → Ky, (fun m => keyFld l (3 + m)) = q := ⟨_, rfl⟩
              rw [hqq] at hki
              have HQQ := Lib.hid hqq
              have n9 := N2.out
              have HDR : Hid (KeysIn wr.drew g9 q) := Lib.hid hki
              have hu := Try.underlying23
              have i0 := key_sizeB (q 0)
              have i1 := key_sizeB (q 1)
              have i2 := key_sizeB (q 2)
              have i3 := key_sizeB (q 3)
              clear hqq hq hki
              go_upto_region 23 with (fail)
              refine wp_region_noPanic ?_
              refine wp_region_held_drew (S := fun w' => KeysIn w' g9 q) (by kernel_rfl) HDR.out (fun hHeld => ?_)
              refine wpAnyH_take (i := 0) (oi := ⟨some 85, _, _, _, _, _⟩) (v := ?_) rfl (by kernel_rfl) (by kernel_rfl) (by kernel_rfl) (fun _ _ _ h => h) (Or.inl ⟨by kernel_rfl, ?_⟩) hHeld ?_
              rotate_left
              · intro w hSw
                (try dsimp only at hSw)
                go_simp
                all_goals (with_reducible rfl)
              conv => arg 8; simp only [Act.put, List.setIfInBounds_toArray, List.set_cons_zero, List.set_cons_succ]
              refine wpAnyH_take (i := 1) (oi := ⟨some 86, _, _, _, _, _⟩) (v := _) rfl (by kernel_rfl) (by kernel_rfl) (by kernel_rfl) (fun _ _ _ h => h) (yieldsIf_load_mid (S := fun w' => KeysIn w' g9 q) (by kernel_rfl) _ _ rfl _ _ rfl _ _ (fun w hSw => hSw.1) hu rfl i0) hHeld ?_
              conv => arg 8; simp only [Act.put, List.setIfInBounds_toArray, List.set_cons_zero, List.set_cons_succ]
              refine wpAnyH_take (i := 2) (oi := ⟨some 87, _, _, _, _, _⟩) (v := ?_) rfl (by kernel_rfl) (by kernel_rfl) (by kernel_rfl) (fun _ _ _ h => h) (Or.inl ⟨by kernel_rfl, ?_⟩) hHeld ?_
              rotate_left
              · intro w hSw
                (try dsimp only at hSw)
                go_simp
                all_goals (with_reducible rfl)
              conv => arg 8; simp only [Act.put, List.setIfInBounds_toArray, List.set_cons_zero, List.set_cons_succ]
              refine wpAnyH_take (i := 3) (oi := ⟨some 88, _, _, _, _, _⟩) (v := _) rfl (by kernel_rfl) (by kernel_rfl) (by kernel_rfl) (fun _ _ _ h => h) (yieldsIf_load_mid (S := fun w' => KeysIn w' g9 q) (by kernel_rfl) _ _ rfl _ _ rfl _ _ (fun w hSw => hSw.2.1) hu rfl i1) hHeld ?_
              conv => arg 8; simp only [Act.put, List.setIfInBounds_toArray, List.set_cons_zero, List.set_cons_succ]
              refine wpAnyH_take (i := 4) (oi := ⟨some 89, _, _, _, _, _⟩) (v := ?_) rfl (by kernel_rfl) (by kernel_rfl) (by kernel_rfl) (fun _ _ _ h => h) (Or.inl ⟨by kernel_rfl, ?_⟩) hHeld ?_
              rotate_left
              · intro w hSw
                (try dsimp only at hSw)
                go_simp
                all_goals (with_reducible rfl)
              conv => arg 8; simp only [Act.put, List.setIfInBounds_toArray, List.set_cons_zero, List.set_cons_succ]
              refine wpAnyH_take (i := 5) (oi := ⟨some 90, _, _, _, _, _⟩) (v := _) rfl (by kernel_rfl) (by kernel_rfl) (by kernel_rfl) (fun _ _ _ h => h) (yieldsIf_load_mid (S := fun w' => KeysIn w' g9 q) (by kernel_rfl) _ _ rfl _ _ rfl _ _ (fun w hSw => hSw.2.2.1) hu rfl i2) hHeld ?_
              conv => arg 8; simp only [Act.put, List.setIfInBounds_toArray, List.set_cons_zero, List.set_cons_succ]
              refine wpAnyH_take (i := 6) (oi := ⟨some 91, _, _, _, _, _⟩) (v := ?_) rfl (by kernel_rfl) (by kernel_rfl) (by kernel_rfl) (fun _ _ _ h => h) (Or.inl ⟨by kernel_rfl, ?_⟩) hHeld ?_
              rotate_left
              · intro w hSw
                (try dsimp only at hSw)
                go_simp
                all_goals (with_reducible rfl)
              conv => arg 8; simp only [Act.put, List.setIfInBounds_toArray, List.set_cons_zero, List.set_cons_succ]
              refine wpAnyH_take (i := 7) (oi := ⟨some 92, _, _, _, _, _⟩) (v := _) rfl (by kernel_rfl) (by kernel_rfl) (by kernel_rfl) (fun _ _ _ h => h) (yieldsIf_load_mid (S := fun w' => KeysIn w' g9 q) (by kernel_rfl) _ _ rfl _ _ rfl _ _ (fun w hSw => hSw.2.2.2) hu rfl i3) hHeld ?_
              conv => arg 8; simp only [Act.put, List.setIfInBounds_toArray, List.set_cons_zero, List.set_cons_succ]
              generalize hW : World.drew _ = z0w at hHeld ⊢
              have HT0 : Hid (RdSt w g gh (hdPart l 3) (.slice (some ⟨gl, 0, none⟩) 7 c0) items z0w) := Lib.hid (by rw [← hW]; exact HSQ.out.below (belowDrewR (Below.refl _ _)))
              have HZ0 : Hid (KeysIn z0w g9 q) := Lib.hid (by rw [← hW]; exact HDR.out)
              clear hW
              refine wpAnyH_take (i := 8) (oi := ⟨some 93, _, _, _, _, _⟩) (v := ?_) rfl (by kernel_rfl) (by kernel_rfl) (by kernel_rfl) (fun _ _ _ h => h) (Or.inl ⟨by kernel_rfl, ?_⟩) hHeld ?_
              rotate_left
              · intro w hSw
                (try dsimp only at hSw)
                go_simp
                all_goals (with_reducible rfl)
              conv => arg 8; simp only [Act.put, List.setIfInBounds_toArray, List.set_cons_zero, List.set_cons_succ]
              refine wpAnyH_ready (rs := [9]) (by kernel_rfl) (by simp) ?_
              refine AllReadyH.cons (o := ⟨none, _, _, _, _, _⟩) rfl (fun K hK => ?_) AllReadyH.nil
              have osto := HdIn.sto (W := z0w) (gh := gh) ⟨_, HT0.out.hd⟩ (o := 3) (by omega) (q 0)
              go_simp
              generalize hW : storeMid _ _ _ = z1w
              have ht := HT0.out.setK HNE.out HGE.out (j := 0) (by omega) (q 0)
              have hk := HZ0.out.store n9 3 (q 0)
              rw [hW] at hk
              rw [storeMid_eq] at hW
              rw [show 3 + 0 * 32 = 3 from rfl, hW] at ht
              have HT1 := Lib.hid ht
              have HZ1 := Lib.hid hk
              clear hW osto ht hk
              refine hK.out _ _ HZ1.out (fun hHeld => ?_)
              clear hK K
              conv => arg 8; simp only [Act.put, List.setIfInBounds_toArray, List.set_cons_zero, List.set_cons_succ]
              refine wpAnyH_take (i := 10) (oi := ⟨some 94, _, _, _, _, _⟩) (v := ?_) rfl (by kernel_rfl) (by kernel_rfl) (by kernel_rfl) (fun _ _ _ h => h) (Or.inl ⟨by kernel_rfl, ?_⟩) hHeld ?_
              rotate_left
              · intro w hSw
                (try dsimp only at hSw)
                go_simp
                all_goals (with_reducible rfl)
              conv => arg 8; simp only [Act.put, List.setIfInBounds_toArray, List.set_cons_zero, List.set_cons_succ]
              refine wpAnyH_ready (rs := [11]) (by kernel_rfl) (by simp) ?_
              refine AllReadyH.cons (o := ⟨none, _, _, _, _, _⟩) rfl (fun K hK => ?_) AllReadyH.nil
              have osto := HdIn.sto (W := z1w) (gh := gh) ⟨_, HT1.out.hd⟩ (o := 35) (by omega) (q 1)
              go_simp
              generalize hW : storeMid _ _ _ = z2w
              have ht := HT1.out.setK HNE.out HGE.out (j := 1) (by omega) (q 1)
              have hk := HZ1.out.store n9 35 (q 1)
              rw [hW] at hk
              rw [storeMid_eq] at hW
              rw [show 3 + 1 * 32 = 35 from rfl, hW] at ht
              have HT2 := Lib.hid ht
              have HZ2 := Lib.hid hk
              clear hW osto ht hk
              refine hK.out _ _ HZ2.out (fun hHeld => ?_)
              clear hK K
              conv => arg 8; simp only [Act.put, List.setIfInBounds_toArray, List.set_cons_zero, List.set_cons_succ]
              refine wpAnyH_take (i := 12) (oi := ⟨some 95, _, _, _, _, _⟩) (v := ?_) rfl (by kernel_rfl) (by kernel_rfl) (by kernel_rfl) (fun _ _ _ h => h) (Or.inl ⟨by kernel_rfl, ?_⟩) hHeld ?_
              rotate_left
              · intro w hSw
                (try dsimp only at hSw)
                go_simp
                all_goals (with_reducible rfl)
              conv => arg 8; simp only [Act.put, List.setIfInBounds_toArray, List.set_cons_zero, List.set_cons_succ]
              refine wpAnyH_ready (rs := [13]) (by kernel_rfl) (by simp) ?_
              refine AllReadyH.cons (o := ⟨none, _, _, _, _, _⟩) rfl (fun K hK => ?_) AllReadyH.nil
              have osto := HdIn.sto (W := z2w) (gh := gh) ⟨_, HT2.out.hd⟩ (o := 67) (by omega) (q 2)
              go_simp
              generalize hW : storeMid _ _ _ = z3w
              have ht := HT2.out.setK HNE.out HGE.out (j := 2) (by omega) (q 2)
              have hk := HZ2.out.store n9 67 (q 2)
              rw [hW] at hk
              rw [storeMid_eq] at hW
              rw [show 3 + 2 * 32 = 67 from rfl, hW] at ht
              have HT3 := Lib.hid ht
              have HZ3 := Lib.hid hk
              clear hW osto ht hk
              refine hK.out _ _ HZ3.out (fun hHeld => ?_)
              clear hK K
              conv => arg 8; simp only [Act.put, List.setIfInBounds_toArray, List.set_cons_zero, List.set_cons_succ]
              refine wpAnyH_take (i := 14) (oi := ⟨some 96, _, _, _, _, _⟩) (v := ?_) rfl (by kernel_rfl) (by kernel_rfl) (by kernel_rfl) (fun _ _ _ h => h) (Or.inl ⟨by kernel_rfl, ?_⟩) hHeld ?_
              rotate_left
              · intro w hSw
                (try dsimp only at hSw)
                go_simp
                all_goals (with_reducible rfl)
              conv => arg 8; simp only [Act.put, List.setIfInBounds_toArray, List.set_cons_zero, List.set_cons_succ]
              refine wpAnyH_ready (rs := [15]) (by kernel_rfl) (by simp) ?_
              refine AllReadyH.cons (o := ⟨none, _, _, _, _, _⟩) rfl (fun K hK => ?_) AllReadyH.nil
              have osto := HdIn.sto (W := z3w) (gh := gh) ⟨_, HT3.out.hd⟩ (o := 99) (by omega) (q 3)
              go_simp
              generalize hW : storeMid _ _ _ = z4w
              have ht := HT3.out.setK HNE.out HGE.out (j := 3) (by omega) (q 3)
              have hk := HZ3.out.store n9 99 (q 3)
              rw [hW] at hk
              rw [storeMid_eq] at hW
              rw [show 3 + 3 * 32 = 99 from rfl, hW] at ht
              have HT4 := Lib.hid ht
              have HZ4 := Lib.hid hk
              clear hW osto ht hk
              refine hK.out _ _ HZ4.out (fun hHeld => ?_)
              clear hK K
              conv => arg 8; simp only [Act.put, List.setIfInBounds_toArray, List.set_cons_zero, List.set_cons_succ]
              refine wpAnyH_done (by kernel_rfl) ?_ _
              refine NoPanic.normal ?_
              have HPT : Hid (RdSt w g gh (hdPart l 7) (.slice (some ⟨gl, 0, none⟩) 7 c0) items z4w) := Lib.hid (by
                have h := HT4.out
                have e : hdPart l 7 = putK (putK (putK (putK (hdPart l 3) 0 (q 0)) 1 (q 1)) 2 (q 2)) 3 (q 3) := by
                  rw [← HQQ.out]
                  rfl
                rw [e]
                exact h)
              clear HT0 HT1 HT2 HT3 HT4 HZ0 HZ1 HZ2 HZ3 HZ4 HSQ HKQ hHeld hu i0 i1 i2 i3 HDR
              go_upto_region 24 with (fail)
              have HFIT := Lib.hid (hdPart_fits (fun i hi => HLQ.out i (by omega)))
              obtain ⟨hp, hhp⟩ : ∃ hp, hdPart l 7 = hp := ⟨_, rfl⟩
              rw [hhp] at HPT HFIT
              have hu := Try.underlying25
              have hik := hd_sizeB hp
              have hrg := hd_range HPT.out.hd
              have HRG := Lib.hid hrg
              have HSV := Lib.hid (HS.out.below HPT.out.bel)
              have HBC := Lib.hid (Below.refl z4w.heap.size z4w)
              refine wp_region_noPanic ?_
              refine wp_region_held_drew (S := fun w' => w'.rangeAt gh 0 (hdCells hp)) (by kernel_rfl) hrg (fun hHeld => ?_)
              refine wpAnyH_take (i := 0) (oi := ⟨some 97, _, _, _, _, _⟩) (v := _) rfl (by kernel_rfl) (by kernel_rfl) (by kernel_rfl) (fun _ _ _ h => h) (yieldsIf_load_mid (S := fun w' => w'.rangeAt gh 0 (hdCells hp)) (by kernel_rfl) _ _ rfl _ _ rfl _ _ (fun w hSw => hSw) hu rfl hik) hHeld ?_
              conv => arg 8; simp only [Act.put, List.setIfInBounds_toArray, List.set_cons_zero, List.set_cons_succ]
              refine wpAnyH_take (i := 1) (oi := ⟨some 98, _, _, _, _, _⟩) (v := _) rfl (by kernel_rfl) (by kernel_rfl) (by kernel_rfl) (fun _ _ _ h => h) (yieldsIf_load_mid (S := fun w' => w'.rangeAt gh 0 (hdCells hp)) (by kernel_rfl) _ _ rfl _ _ rfl _ _ (fun w hSw => hSw) hu rfl hik) hHeld ?_
              conv => arg 8; simp only [Act.put, List.setIfInBounds_toArray, List.set_cons_zero, List.set_cons_succ]
              refine wpAnyH_take (i := 3) (oi := ⟨some 100, _, _, _, _, _⟩) (v := ?_) rfl (by kernel_rfl) (by kernel_rfl) (by kernel_rfl) (fun _ _ _ h => h) (Or.inl ⟨by kernel_rfl, ?_⟩) hHeld ?_
              rotate_left
              · intro w hSw
                (try dsimp only at hSw)
                go_simp
                all_goals (with_reducible rfl)
              conv => arg 8; simp only [Act.put, List.setIfInBounds_toArray, List.set_cons_zero, List.set_cons_succ]
              refine wpAnyH_ready (rs := [2]) (by kernel_rfl) (by simp) ?_
              refine AllReadyH.cons (o := ⟨some 99, _, _, _, _, _⟩) rfl (fun K hK => ?_) AllReadyH.nil
              go_simp
              go_at_call 30
              (with_reducible refine (rheader_any _ hp HFIT.out).mono ?_)
              rintro e w5 ⟨v5, rfl, hb5, ho5⟩
              have hbe := below_step (a := z4w) (belowDrewR (Below.refl _ _)) hb5
              have HBE := Lib.hid hbe
              have HO5 := Lib.hid ho5
              clear hb5 ho5 hbe
              refine hK.out _ _ (HdAt.below HRG.out HBE.out) (fun hHeld => ?_)
              clear hK K
              conv => arg 8; simp only [Act.put, List.setIfInBounds_toArray, List.set_cons_zero, List.set_cons_succ]
              refine wpAnyH_ready (rs := [4]) (by kernel_rfl) (by simp) ?_
              refine AllReadyH.cons (o := ⟨some 101, _, _, _, _, _⟩) rfl (fun K hK => ?_) AllReadyH.nil
              go_simp
              go_at_call 13
              (with_reducible refine (same_bytes HO5.out.see (HSV.out.below HBE.out)).mono ?_)
              rintro e w6 ⟨rfl, rfl⟩
              refine hK.out _ _ (HdAt.below HRG.out HBE.out) (fun hHeld => ?_)
              clear hK K
              conv => arg 8; simp only [Act.put, List.setIfInBounds_toArray, List.set_cons_zero, List.set_cons_succ]
              refine wpAnyH_ready (rs := [5]) (by kernel_rfl) (by simp) ?_
              refine AllReadyH.cons (o := ⟨none, _, _, _, _, _⟩) rfl (fun K hK => ?_) AllReadyH.nil
              have HPT5 := Lib.hid (HPT.out.below HBE.out)
              have osto : StoOk 131 w5 (.pointer (some ⟨g, 0, none⟩)) (.agg (hdCells hp).toArray) := ⟨g, 0, _, rfl, rfl, hdCells_len _, blk_there HPT5.out.box (by rw [List.size_toArray, hdCells_len]; exact Nat.le_refl _), hdCells_one _⟩
              go_simp
              generalize hW : storeMid _ _ _ = w7
              rw [storeMid_eq] at hW
              have ho7 : Only (fun k => k = g) w5 w7 := by rw [← hW]; exact setCells_only _ w5 g _ _ (.inl rfl)
              have hk7 : Blk w7 g 25 (hdCells hp).toArray := by rw [← hW]; exact setCells_whole HPT5.out.box (by rw [List.size_toArray, hdCells_len, hdCells_len])
              have hb7 : Below w.heap.size w w7 := Only.below_trans HPT5.out.bel ho7 HPT5.out.bel.size (fun k hk => by rw [hk]; exact HGG.out)
              have HK7 := Lib.hid hk7
              have HB7 := Lib.hid hb7
              have hne2 := HNE.out
              have hs7 : w7.rangeAt gh 0 (hdCells hp) := hd_range (HPT5.out.hd.only ho7 (fun e => hne2 e.symm))
              clear hW osto ho7 hk7 hb7 hne2
              refine hK.out _ _ hs7 (fun hHeld => ?_)
              clear hK K hs7
              conv => arg 8; simp only [Act.put, List.setIfInBounds_toArray, List.set_cons_zero, List.set_cons_succ]
              refine wpAnyH_take (i := 6) (oi := ⟨some 3, _, _, _, _, _⟩) (v := ?_) rfl (by kernel_rfl) (by kernel_rfl) (by kernel_rfl) (fun _ _ _ h => h) (Or.inl ⟨by kernel_rfl, ?_⟩) hHeld ?_
              rotate_left
              · intro w hSw
                (try dsimp only at hSw)
                go_simp
                all_goals (with_reducible rfl)
              conv => arg 8; simp only [Act.put, List.setIfInBounds_toArray, List.set_cons_zero, List.set_cons_succ]
              refine wpAnyH_done (by kernel_rfl) ?_ _
              refine NoPanic.normal ?_
              have hsm := readH_same (b := b) (by omega) HP.out HLL.out HLQ.out
              rw [hhp] at hsm
              go_wp2_with fail
              refine bodyPost_ret (results_cell_tmp rfl _ _ g _ _ (0, 0) _ rfl HK7.out Try.underlying25 rfl (hd_szI _)) rfl ⟨HB7.out, ?_⟩
              by_cases hq : headerB hp = b
              · rw [hsm.1 hq, decide_eq_true hq]
                rfl
              · rw [hsm.2 hq, decide_eq_false hq]
                exact ⟨_, rfl⟩
    · have t7 : ((il : Int) == 7) = false := beq_eq_false_iff_ne.2 (by omega)
      have t7b : ((il : Int) != 7) = true := bne_iff_ne.2 (by omega)
      have HNO : Hid (readH b = none) := Lib.hid (readH_len HP.out (by rw [HLL.out]; exact h7))
      clear h7
      have hrg := hd_range HST.out.hd
      have q1 := aggOk_mk hrg (hdCells_len _)
      have q2 := loadN_eq hrg (hdCells_len _)
      clear hrg
      go_wp2_with (refine wpList_store_rowTo rfl 25 (.tmp 2) (.tmp 25) rfl rfl g (hdCells (hdPart [] 0)).toArray rfl rfl _ _ HST.out.box (hd_szI _) (hd_szE _ _) (all_one _ (hdCells_one _)) ?_)
      generalize hwz : World.setRow _ _ _ = wz
      have hz : Below w.heap.size w wz ∧ Blk wz g 25 (hdCells (hdPart [] 0)).toArray := by
        rw [← hwz]
        exact row_step HST.out.bel HGG.out HST.out.box _
      clear hwz
      refine bodyPost_ret (results_cell_tmp rfl _ _ g _ _ (0, 0) _ rfl hz.2 Try.underlying25 rfl (hd_szI _)) rfl ⟨hz.1, ?_⟩
      rw [HNO.out]
      exact ⟨_, rfl⟩
end Go.Proofs.Ytnhggaghidbniaa
