/- The reference's Message; the program's field. -/
import Derived.Test.YtnhggaghidbniaaWirL
import Derived.Test.YtnhggaghidbniaaBlkSpec
namespace Go.Proofs.Ytnhggaghidbniaa
open Go.RowKit
set_option linter.unusedVariables false
set_option linter.unusedSimpArgs false
open Wir

/-- the reference's message: a field that is not right drops what was written before -/
def msgStep (b : List UInt8) (f : Fld) : List UInt8 := if f.right = true then b ++ enc f else []
def msgR (l : List Fld) : List UInt8 := l.foldl msgStep []
theorem msgR_snoc (l : List Fld) (f : Fld) : msgR (l ++ [f]) = msgStep (msgR l) f := by unfold msgR; rw [List.foldl_append]; rfl
theorem msgR_right : ∀ (l : List Fld), (∀ f ∈ l, f.right = true) → msgR l = msg l := by
  intro l
  suffices h : ∀ (l : List Fld) (b : List UInt8), (∀ f ∈ l, f.right = true) → l.foldl msgStep b = b ++ msg l by
    intro hr
    have := h l [] hr
    rw [List.nil_append] at this
    exact this
  intro l
  induction l with
  | nil => intro b _; simp [msg]
  | cons f l ih =>
    intro b hr
    rw [List.foldl_cons, ih _ (fun g hg => hr g (by simp [hg])), msg_cons]
    unfold msgStep
    rw [if_pos (hr f (by simp)), List.append_assoc]
def fieldsSum (l : List Fld) : Nat := (l.map (fun f => f.bytes.length + 20)).sum
theorem fieldsSum_cons (f : Fld) (l : List Fld) : fieldsSum (f :: l) = f.bytes.length + 20 + fieldsSum l := by unfold fieldsSum; rw [List.map_cons, List.sum_cons]
theorem fieldsSum_append (a b : List Fld) : fieldsSum (a ++ b) = fieldsSum a + fieldsSum b := by unfold fieldsSum; rw [List.map_append, List.sum_append]
theorem enc_le {f : Fld} (hr : f.right = true) (hv : f.val < 2 ^ 64) (hb : f.bytes.length < 2 ^ 64) : (enc f).length ≤ f.bytes.length + 20 := by
  obtain ⟨h1, h2, h3⟩ := right_bounds hr
  have hp : (128 : Nat) ^ (9 + 1) = 1180591620717411303424 := by decide
  have ht := vint_len 9 (8 * f.num + f.kind).toNat (by omega)
  have hvl := vint_len 9 f.val (by omega)
  have hbl := vint_len 9 f.bytes.length (by omega)
  unfold enc
  rw [List.length_append]
  split
  · omega
  · rw [List.length_append]; omega
theorem msgR_le : ∀ (l : List Fld), (∀ f ∈ l, f.val < 2 ^ 64 ∧ f.bytes.length < 2 ^ 64) → (msgR l).length ≤ fieldsSum l := by
  intro l
  suffices h : ∀ (l : List Fld) (b : List UInt8), (∀ f ∈ l, f.val < 2 ^ 64 ∧ f.bytes.length < 2 ^ 64) → (l.foldl msgStep b).length ≤ b.length + fieldsSum l by
    intro hr
    have := h l [] hr
    simpa [msgR] using this
  intro l
  induction l with
  | nil => intro b _; simp [fieldsSum]
  | cons f l ih =>
    intro b hr
    rw [List.foldl_cons, fieldsSum_cons]
    have h1 := ih (msgStep b f) (fun g hg => hr g (by simp [hg]))
    have h2 : (msgStep b f).length ≤ b.length + (f.bytes.length + 20) := by
      unfold msgStep
      split
      · rename_i hf
        have := enc_le hf (hr f (by simp)).1 (hr f (by simp)).2
        rw [List.length_append]; omega
      · simp
    omega
theorem fieldsSum_mem : ∀ (l : List Fld) (f : Fld), f ∈ l → f.bytes.length + 20 ≤ fieldsSum l
  | [], f, h => by simp at h
  | g :: l, f, h => by
    rw [fieldsSum_cons]
    rcases List.mem_cons.1 h with rfl | h
    · omega
    · have := fieldsSum_mem l f h; omega
theorem fieldsSum_take (l : List Fld) (k : Nat) : fieldsSum (l.take k) ≤ fieldsSum l := by
  conv => rhs; rw [← List.take_append_drop k l]
  rw [fieldsSum_append]
  omega
theorem FldsAt.at_ {w : World} {m c : Nat} {A : Option Addr} {l : List FItem} (h : FldsAt w A m c l) : ∃ g o, (0 < m → A = some ⟨g, o, none⟩) ∧ ∀ k, k < m → ∃ x, l[k]? = some x ∧ SeeB w x.v x.f.bytes ∧ ∀ i u, x.cells[i]? = some u → w.cell? ⟨g, o + k * 4 + i, none⟩ = some u := by
  obtain ⟨h1, h2, h3, ⟨g, o, hA, hc⟩, h4⟩ := h
  refine ⟨g, o, hA, fun k hk => ?_⟩
  have hk' : k < l.length := by omega
  refine ⟨l[k], List.getElem?_eq_getElem hk', h4 _ (List.getElem_mem hk'), fun i u hu => ?_⟩
  have hi : i < 4 := by
    have := (List.getElem?_eq_some_iff.1 hu).1
    rw [FItem.len] at this
    exact this
  rw [Nat.add_assoc]
  exact hc _ _ ((fldsOf_get l k i _ (List.getElem?_eq_getElem hk') hi).trans hu)

def MsgAt (w : World) (fs : List Fld) (wr : World) (v i : Value) : Prop := ∃ k : Nat, i = .int .i64 (k : Int) ∧ k ≤ fs.length ∧ Below w.heap.size w wr ∧ OwnB wr w.heap.size v (msgR (fs.take k))
set_option maxRecDepth 100000 in
set_option maxHeartbeats 4000000 in
theorem message_any (w : World) (A : Option Addr) (m c : Nat) (l : List FItem) (h : FldsAt w A m c l) (hsum : fieldsSum (l.map FItem.f) ≤ 1000000000) (hok : ∀ x ∈ l, x.f.val < 2 ^ 64) :
    Calls Try.prog 19 #[.slice A m c] w fun e w' => ∃ v, e = .returned v ∧ Below w.heap.size w w' ∧ OwnB w' w.heap.size v (msgR (l.map FItem.f)) := by
  have HL := Lib.hid h
  have HOK := Lib.hid hok
  have hm63 : m ≤ 9223372036854775807 := Nat.le_trans h.2.1 h.2.2.1
  have hml : (l.map FItem.f).length = m := by rw [List.length_map]; exact h.1
  have HML := Lib.hid hml
  have HSUM := Lib.hid hsum
  clear h hok hml hsum
  go_enter Try.func19, Try.ntmps19
  go_wp2_with fail
  go_loopw [3, 8] (fun s i wr => MsgAt w (l.map FItem.f) wr s i) (fun _ i _ => m - (intOf i).toNat)
  case atStart => exact ⟨0, rfl, Nat.zero_le _, Below.refl _ _, OwnB.nil _ _⟩
  case round =>
    obtain ⟨k, rfl, hk, hbr, hor⟩ := hrel
    rw [HML.out] at hk
    have HBR := Lib.hid hbr
    have HOR := Lib.hid hor
    have hzr := hbr.size
    clear hbr hor
    rcases Nat.lt_or_ge k m with hlt | hge
    · have t1 : (k : Int) < (m : Int) := by omega
      have t0 : (0 : Int) ≤ (k : Int) := by omega
      obtain ⟨g, o, hA, hat⟩ := (HL.out.below HBR.out).at_
      obtain rfl := hA (by omega)
      obtain ⟨x, hx, hsx, hcx⟩ := hat k hlt
      obtain ⟨⟨fn, fk, fv, fb⟩, u⟩ := x
      obtain ⟨Au, cu, hue, hu1, hu2, hur⟩ := hsx
      have hue : u = .slice Au fb.length cu := hue
      subst hue
      have hsx : SeeB wr (.slice Au fb.length cu) fb := ⟨Au, cu, rfl, hu1, hu2, hur⟩
      obtain ⟨ul, hul⟩ : ∃ ul, fb.length = ul := ⟨_, rfl⟩
      rw [hul] at hcx hsx
      have c0 := hcx 0 _ rfl
      have c1 := hcx 1 _ rfl
      have c2 := hcx 2 _ rfl
      have c3 := hcx 3 _ rfl
      rw [Nat.add_zero] at c0
      have HX := Lib.hid hx
      have HSX := Lib.hid hsx
      have HUL := Lib.hid hul
      clear hA hat hx hcx hsx hue hu1 hu2 hur hul
      go_upto_region 5 with (refine wpList_store_rowTo rfl 50 (.tmp 5) (.tmp 11) rfl rfl wr.heap.size #[.int .i64 fn, .int .i64 fk, .int .u64 (fv : Int), .slice Au ul cu] rfl rfl _ _ (fld_new wr) (by kernel_rfl) rfl (by kernel_rfl) ?_)
      generalize hw5 : World.setRow _ _ _ = w5
      have h5 : Below wr.heap.size wr w5 ∧ Blk w5 wr.heap.size 50 #[.int .i64 fn, .int .i64 fk, .int .u64 (fv : Int), .slice Au ul cu] := by
        rw [← hw5]
        exact row_step ((Below.refl _ _).alloc (Nat.le_refl _) _) (Nat.le_refl _) (fld_new wr) _
      have HB5 := Lib.hid (HBR.out.trans (h5.1.mono hzr))
      have HO5 := Lib.hid (HOR.out.below h5.1)
      have HS5 := Lib.hid (HSX.out.below h5.1)
      have c0 := h5.2.cell 0
      have c1 := h5.2.cell 1
      have c2 := h5.2.cell 2
      have c3 := h5.2.cell 3
      simp only [List.getElem?_toArray, List.getElem?_cons_zero, List.getElem?_cons_succ] at c0 c1 c2 c3
      have hxf : (l.map FItem.f)[k]? = some ⟨fn, fk, fv, fb⟩ := by rw [List.getElem?_map, HX.out]; rfl
      have hxm := List.mem_of_getElem? HX.out
      have htk : (l.map FItem.f).take (k + 1) = (l.map FItem.f).take k ++ [⟨fn, fk, fv, fb⟩] := by
        obtain ⟨q1, q2⟩ := List.getElem?_eq_some_iff.1 hxf
        rw [List.take_succ_eq_append_getElem q1, q2]
      have hfv : fv < 2 ^ 64 := HOK.out _ hxm
      have hfb : fb.length ≤ 1000000000 := by
        have q1 := fieldsSum_take (l.map FItem.f) (k + 1)
        rw [htk, fieldsSum_append] at q1
        have q2 : fieldsSum [(⟨fn, fk, fv, fb⟩ : Fld)] = fb.length + 20 := by rw [fieldsSum_cons]; rfl
        have := HSUM.out
        omega
      have hall : ∀ f ∈ (l.map FItem.f).take k, f.val < 2 ^ 64 ∧ f.bytes.length < 2 ^ 64 := fun f hf => by
        have hf := List.mem_of_mem_take hf
        obtain ⟨y, hy, rfl⟩ := List.mem_map.1 hf
        refine ⟨HOK.out y hy, ?_⟩
        have q3 := fieldsSum_mem _ _ hf
        have := HSUM.out
        omega
      have hbl : (msgR ((l.map FItem.f).take k)).length ≤ 1000000000 := by
        have q1 := msgR_le _ hall
        have q2 := fieldsSum_take (l.map FItem.f) k
        have := HSUM.out
        omega
      have HTK := Lib.hid htk
      clear hw5 h5 HOR HSX HX hxf hxm hall htk
      go_wp2_with fail
      refine (rfield_any w5 _ _ HO5.out.see (by omega) ⟨fn, fk, fv, fb⟩ _ HS5.out hfv (by show fb.length ≤ _; omega)).mono ?_
      rintro e w6 ⟨hb6, he6⟩
      have HB6 := Lib.hid (HB5.out.trans (hb6.mono HB5.out.size))
      have hz5 := HB5.out.size
      have hres : ∃ v6 c6, e = .returned (.tuple #[v6, c6]) ∧ OwnB w6 w.heap.size v6 (msgR ((l.map FItem.f).take (k + 1))) := by
        rw [HTK.out, msgR_snoc]
        unfold msgStep
        rcases he6 with ⟨hr, rfl⟩ | ⟨hr, v', rfl, ho⟩
        · rw [hr, if_neg (by simp)]
          exact ⟨_, _, rfl, OwnB.nil _ _⟩
        · rw [hr, if_pos rfl]
          exact ⟨_, _, rfl, ho.less hz5⟩
      obtain ⟨v6, c6, rfl, ho6⟩ := hres
      have HO6 := Lib.hid ho6
      clear he6 hb6 ho6 hbl
      go_wp2_with fail
      go_roundw
      case rel => exact ⟨k + 1, by go_num, by rw [HML.out]; omega, HB6.out, HO6.out⟩
      case measure => simp [intOf]; omega
    · obtain rfl : k = m := by omega
      have t1 : ¬ (k : Int) < (k : Int) := by omega
      have ho := HOR.out
      rw [List.take_of_length_le (by rw [HML.out]; exact Nat.le_refl _)] at ho
      have HO := Lib.hid ho
      clear ho
      go_wp2_with fail
      go_ret
      exact ⟨_, rfl, HBR.out, HO.out⟩

/-- the program's field: a right field behind bytes of the call's own -/
def FldBehind (w : World) (base : Nat) (vb : Value) (b : List UInt8) (f : Fld) (e : Ending) (w' : World) : Prop := ∃ v', e = .returned v' ∧ OwnB w' base v' (b ++ enc f) ∧ w.grownBy w' vb.ownBlock
set_option maxRecDepth 100000 in
set_option maxHeartbeats 1000000 in
theorem bfield_any (w : World) (base : Nat) (hbase : base ≤ w.heap.size) (vb : Value) (b : List UInt8) (ho : OwnB w base vb b) (hb : b.length ≤ 1073741824) (f : Fld) (v : Value) (hv : SeeB w v f.bytes) (hval : f.val < 2 ^ 64) (hfb : f.bytes.length ≤ 1073741824) (hr : f.right = true) :
    Calls Try.prog 25 #[vb, fldV f v] w (FldBehind w base vb b f) := by
  have HO := Lib.hid ho
  have HV := Lib.hid hv
  clear ho hv
  go_enter Try.func25, Try.ntmps25
  go_upto_region 1 with (fail)
  generalize hw1 : World.alloc _ _ = w1
  have hb1 : Below w.heap.size w w1 := by rw [← hw1]; exact (Below.refl _ _).alloc (Nat.le_refl _) _
  have hk1 : Blk w1 w.heap.size 50 #[.int .i64 f.num, .int .i64 f.kind, .int .u64 (f.val : Int), v] := by rw [← hw1]; exact heap_alloc_new _ _
  have c0 := hk1.cell 0
  have c1 := hk1.cell 1
  have c2 := hk1.cell 2
  have c3 := hk1.cell 3
  simp only [List.getElem?_toArray, List.getElem?_cons_zero, List.getElem?_cons_succ] at c0 c1 c2 c3
  have HB1 := Lib.hid hb1
  have hz1 := hb1.size
  clear hw1 hb1 hk1
  go_wp2_with fail
  refine (wappend_any w1 _ [] (SeeB.nil w1) (by simp) f v (HV.out.below HB1.out) hval hfb).mono ?_
  rintro e w2 ⟨hb2, he2⟩
  rcases he2 with ⟨hno, _⟩ | ⟨_, v2, rfl, ho2⟩
  · rw [hr] at hno; cases hno
  rw [List.nil_append] at ho2
  have HB2 := Lib.hid (HB1.out.trans (hb2.mono hz1))
  have HS2 := Lib.hid ho2.see
  have hz2 := HB2.out.size
  have hel : (enc f).length ≤ 1073741844 := by have := enc_le hr hval (by omega); omega
  clear hb2 ho2
  go_wp2_with (at_builtin
               refine wpList_app_bytes rfl (.tmp 12) (.tmp 13) rfl base _ b rfl (HO.out.below HB2.out) _ _ rfl HS2.out (by omega) (Nat.le_trans hbase hz2) ?_
               intro v3 w3 ho3 hb3 hg3
               have HO3 := Lib.hid ho3
               have HG3 := Lib.hid (only_trans (below_grownBy HB2.out vb.ownBlock) hg3 (fun g e => .inr e))
               clear ho3 hb3 hg3)
  go_ret
  exact ⟨_, rfl, HO3.out, HG3.out⟩
end Go.Proofs.Ytnhggaghidbniaa
