/- BlockFields. -/
import Derived.Test.YtnhggaghidbniaaBlkD
namespace Go.Proofs.Ytnhggaghidbniaa
open Go.RowKit
set_option linter.unusedVariables false
set_option linter.unusedSimpArgs false
open Wir ShaW Sha
set_option maxRecDepth 100000

theorem OwnFs.reads {w : World} {base : Nat} {A : Option Addr} {n c : Nat} {l : List FItem} (h : OwnFs w base (.slice A n c) l) (hn : l.length = n) : Reads w w.heap.size 4 A n (fldsOf l) ∧ n ≤ c := by
  subst hn
  have hr : w.ownsRow base 50 4 (.slice A l.length c) l.length (fldsOf l) := h.row
  refine ⟨Reads.of_own hr, ?_⟩
  rcases hr.2 with ⟨hv, h0⟩ | ⟨g, cap, cur, hv, hb, hg, hnc, hcm, hsz, htk⟩
  · omega
  · injection hv with _ _ e
    omega
theorem fldsOf_take_drop (l : List FItem) (k : Nat) : fldsOf l = fldsOf (l.take k) ++ fldsOf (l.drop k) := by rw [← fldsOf_append, List.take_append_drop]
theorem fldsOf_one_ {l : List FItem} (h : ∀ x ∈ l, x.v.oneCell' = true) : ∀ u ∈ fldsOf l, u.oneCell' = true := by
  intro u hu
  unfold fldsOf at hu
  obtain ⟨x, hx, hu⟩ := List.mem_flatMap.1 hu
  exact cells_one (h x hx) u hu
theorem flds_upto {w : World} {A : Option Addr} {n c : Nat} {l : List FItem} (hr : Reads w w.heap.size 4 A n (fldsOf l)) (hn : l.length = n) (hc : n ≤ c) {k : Nat} (hk : k ≤ n) :
    ∃ A' c', Reads w w.heap.size 4 A' k (fldsOf (l.take k)) ∧ ∀ W, (Instr.slice 46 (.slice A n c) none (some (.int .i64 (k : Int))) none).run Try.prog W = .ok (.slice A' k c') W := by
  have hs : ∀ W, (Instr.slice 46 (.slice A n c) none (some (.int .i64 (k : Int))) none).run Try.prog W = .ok (sliced A 0 k c 4) W := fun W => by
    rw [run_slice_h (ht := und_flds) (h0 := by omega) (h2 := by omega), size_flds]
    rfl
  refine ⟨A, c, ?_, fun W => ?_⟩
  · refine ⟨by rw [fldsOf_len, List.length_take]; omega, fun hp => ?_⟩
    obtain ⟨ad, e, hb, hcl⟩ := hr.2 (by omega)
    refine ⟨ad, e, hb, fun j u hu => hcl j u ?_⟩
    rw [fldsOf_take_drop l k, List.getElem?_append_left (List.getElem?_eq_some_iff.1 hu).1]
    exact hu
  · rw [hs W]
    unfold sliced
    rw [Nat.sub_zero, Nat.sub_zero]
    congr 2
    split
    · rfl
    · cases A with
      | none => rfl
      | some a => simp [Addr.add]
theorem flds_from {w : World} {A : Option Addr} {n c : Nat} {l : List FItem} (hr : Reads w w.heap.size 4 A n (fldsOf l)) (hn : l.length = n) (hc : n ≤ c) {k : Nat} (hk : k ≤ n) {z : Int} (hz : z = (k : Int)) :
    ∃ A' c', Reads w w.heap.size 4 A' (n - k) (fldsOf (l.drop k)) ∧ ∀ W, (Instr.slice 46 (.slice A n c) (some (.int .i64 z)) none none).run Try.prog W = .ok (.slice A' (n - k) c') W := by
  subst hz
  have hs : ∀ W, (Instr.slice 46 (.slice A n c) (some (.int .i64 (k : Int))) none none).run Try.prog W = .ok (sliced A k n c 4) W := fun W => by
    rw [run_slice_l (ht := und_flds) (h0 := by omega) (h1 := by omega), size_flds]
    rfl
  refine ⟨_, _, ?_, hs⟩
  have h1 := hr.cut hk hc
  have e : fldsOf (l.drop k) = (fldsOf l).drop (k * 4) := by
    have h2 := fldsOf_take_drop l k
    have h3 : (fldsOf (l.take k)).length = k * 4 := by rw [fldsOf_len, List.length_take]; omega
    rw [h2, ← h3, List.drop_left]
  rw [e]
  exact h1
theorem fieldsSum_32 : ∀ l : List Fld, (∀ f ∈ l, f.bytes.length ≤ 32) → fieldsSum l ≤ 52 * l.length
  | [], _ => by simp [fieldsSum]
  | f :: l, h => by
    have ih := fieldsSum_32 l (fun g hg => h g (List.mem_cons_of_mem _ hg))
    have h1 := h f (List.mem_cons_self ..)
    rw [fieldsSum_cons, List.length_cons]
    omega
/-- what the switch leaves of the header's fields -/
def HdLeft (W wx : World) (v : Value) : Prop :=
  Below W.heap.size W wx ∧ ∃ A m c its, v = .slice A m c ∧ FldsAt wx A m c its ∧ m ≤ 8 ∧ ∀ x ∈ its, x.f.bytes.length ≤ 32 ∧ x.f.val < 2 ^ 64
theorem fldsOf_getQ : ∀ (l : List FItem) (j : Nat), (fldsOf l)[j]? = (l[j / 4]?).bind fun x => x.cells[j % 4]?
  | [], j => by simp [fldsOf]
  | x :: l, j => by
    rw [fldsOf_cons]
    rcases Nat.lt_or_ge j 4 with h | h
    · rw [List.getElem?_append_left (by rw [FItem.len]; exact h), show j / 4 = 0 by omega, show j % 4 = j by omega]
      rfl
    · rw [List.getElem?_append_right (by rw [FItem.len]; exact h), FItem.len, fldsOf_getQ l (j - 4), show j / 4 = (j - 4) / 4 + 1 by omega, show (j - 4) % 4 = j % 4 by omega, List.getElem?_cons_succ]
theorem owns_neF {w : World} {base base' : Nat} {e e' : TypeId} {size size' n n' : Nat} {v v' : Value} {xs xs' : List Value} (h : w.ownsRow base e size v n xs) (h' : w.ownsRow base' e' size' v' n' xs') (hne : e ≠ e') {g : Nat} (hg : v.ownBlock = some g) : v'.ownBlock ≠ some g := by
  intro hg'
  rcases h.2 with ⟨h1, _⟩ | ⟨k, cap, cur, h1, _, h3, _⟩
  · rw [h1] at hg; cases hg
  · rcases h'.2 with ⟨q1, _⟩ | ⟨k', cap', cur', q1, _, q3, _⟩
    · rw [q1] at hg'; cases hg'
    · rw [h1] at hg
      rw [q1] at hg'
      injection hg with hg
      injection hg' with hg'
      subst hg
      have hg' : k' = k := hg'
      subst hg'
      rw [h3] at q3
      injection q3 with q3
      injection q3 with _ q4
      exact hne q4
theorem FldsAt.of_own {w : World} {base : Nat} {A : Option Addr} {n c : Nat} {l : List FItem} (h : w.ownsRow base 50 4 (.slice A n c) n (fldsOf l)) (hn : l.length = n) (hs : ∀ x ∈ l, SeeB w x.v x.f.bytes) : FldsAt w A n c l := by
  subst hn
  obtain ⟨A', c', h1, h2⟩ := OwnF.form (w := w) (base := base) (v := .slice A l.length c) (l := l) h hs
  injection h1 with e1 e2 e3
  subst e1 e3
  exact h2
theorem empty_ownF (w : World) : (w.alloc (.cells #[] 50)).ownsRow w.heap.size 50 4 (.slice (some ⟨w.heap.size, 0, none⟩) 0 0) 0 [] :=
  ⟨rfl, .inr ⟨w.heap.size, 0, #[], rfl, Nat.le_refl _, heap_alloc_new _ _, Nat.le_refl _, Nat.zero_le _, rfl, rfl⟩⟩
theorem reads_fld {w : World} {g : Nat} {x : FItem} (h : Blk w g 50 #[.int .i64 x.f.num, .int .i64 x.f.kind, .int .u64 (x.f.val : Int), x.v]) : Reads w w.heap.size 4 (some ⟨g, 0, none⟩) 1 (fldsOf [x]) := by
  rw [fldsOf_one]
  refine ⟨rfl, fun _ => ⟨_, rfl, h.lt, fun j u hu => ?_⟩⟩
  rw [add_flat, Nat.zero_add, h.cell]
  exact List.getElem?_toArray.trans hu
theorem hd_32 (y : Hd) (hy : y.fits) : ∀ f ∈ hdFields y, f.bytes.length ≤ 32 ∧ f.val < 2 ^ 64 := fun f hf => by
  refine ⟨?_, (hdFields_okay hy f hf).2.1⟩
  unfold hdFields at hf
  simp only [List.mem_cons, List.not_mem_nil, or_false] at hf
  rcases hf with rfl | rfl | rfl | rfl | rfl | rfl | rfl <;> first | exact Nat.zero_le _ | exact Nat.le_of_eq (kL_len _)
theorem hd_at {y : Hd} {k : Nat} {f : Fld} (h : (hdFields y)[k]? = some f) : f.num = (k : Int) + 1 ∧ ((k < 3 ∧ f.kind = 0 ∧ f.bytes = []) ∨ (¬ k < 3 ∧ f.kind = 2 ∧ f.bytes.length = 32)) := by
  have hk : k < 7 := (List.getElem?_eq_some_iff.1 h).1
  match k, hk with
  | 0, _ => injection h with h; subst h; exact ⟨rfl, .inl ⟨by omega, rfl, rfl⟩⟩
  | 1, _ => injection h with h; subst h; exact ⟨rfl, .inl ⟨by omega, rfl, rfl⟩⟩
  | 2, _ => injection h with h; subst h; exact ⟨rfl, .inl ⟨by omega, rfl, rfl⟩⟩
  | 3, _ => injection h with h; subst h; exact ⟨rfl, .inr ⟨by omega, rfl, kL_len _⟩⟩
  | 4, _ => injection h with h; subst h; exact ⟨rfl, .inr ⟨by omega, rfl, kL_len _⟩⟩
  | 5, _ => injection h with h; subst h; exact ⟨rfl, .inr ⟨by omega, rfl, kL_len _⟩⟩
  | 6, _ => injection h with h; subst h; exact ⟨rfl, .inr ⟨by omega, rfl, kL_len _⟩⟩
theorem take_one_drop {l : List FItem} {k : Nat} {x : FItem} (h : l[k]? = some x) : x ∈ l := by
  obtain ⟨h1, h2⟩ := List.getElem?_eq_some_iff.1 h
  rw [← h2]
  exact List.getElem_mem h1
theorem mem_td {l : List FItem} {k : Nat} {x : FItem} (h : x ∈ l.take k ++ l.drop (k + 1)) : x ∈ l := (List.mem_append.1 h).elim List.mem_of_mem_take List.mem_of_mem_drop
theorem mem_tx {l : List FItem} {k : Nat} {x y : FItem} (hy : y ∈ l) (h : x ∈ l.take k ++ [y] ++ l.drop k) : x ∈ l := by
  rcases List.mem_append.1 h with h | h
  · rcases List.mem_append.1 h with h | h
    · exact List.mem_of_mem_take h
    · rw [List.mem_singleton.1 h]; exact hy
  · exact List.mem_of_mem_drop h
theorem FldsAt.put {w w' : World} {base g n c : Nat} {l : List FItem} (h : OwnFs w base (.slice (some ⟨g, 0, none⟩) n c) l) (hn : l.length = n) {k : Nat} (hk : k < n) (x' : FItem) (hb : SeeB w' x'.v x'.f.bytes) (ho : Only (fun q => q = g) w w')
    (hc : ∀ j u, x'.cells[j]? = some u → w'.cell? ⟨g, k * 4 + j, none⟩ = some u) (he : ∀ i, i < k * 4 ∨ k * 4 + 4 ≤ i → w'.cell? ⟨g, i, none⟩ = w.cell? ⟨g, i, none⟩) : FldsAt w' (some ⟨g, 0, none⟩) n c (l.set k x') := by
  subst hn
  have hr : w.ownsRow base 50 4 (.slice (some ⟨g, 0, none⟩) l.length c) l.length (fldsOf l) := h.row
  have hcl : ∀ j u, (fldsOf l)[j]? = some u → w.cell? ⟨g, j, none⟩ = some u := fun j u hu => by
    have := hr.cells (g := g) rfl j u hu
    rwa [add_flat, Nat.zero_add] at this
  have hcc : l.length ≤ c ∧ c ≤ 9223372036854775807 := by
    rcases hr.2 with ⟨hv, h0⟩ | ⟨g', cap, cur, hv, hb, hg, hnc, hcm, hsz, htk⟩
    · omega
    · injection hv with _ _ e
      subst e
      exact ⟨hnc, hcm⟩
  refine ⟨List.length_set, hcc.1, hcc.2, ⟨g, 0, fun _ => rfl, fun j u hu => ?_⟩, fun x hx => ?_⟩
  · rw [Nat.zero_add]
    rw [fldsOf_getQ] at hu
    by_cases hj : j / 4 = k
    · subst hj
      rw [List.getElem?_set_self (by omega)] at hu
      have := hc (j % 4) u hu
      rwa [show j / 4 * 4 + j % 4 = j by omega] at this
    · rw [List.getElem?_set_ne (by omega), ← fldsOf_getQ] at hu
      rw [he j (by omega)]
      exact hcl j u hu
  · rcases List.mem_or_eq_of_mem_set hx with hx | rfl
    · have hob : w.ownsRow base 5 1 x.v x.f.bytes.length (bytesL x.f.bytes) := h.byt x hx
      exact OwnB.see (show OwnB w' base x.v x.f.bytes from owns_only hob ho (fun q hq e => owns_neF hob hr (by decide) hq (by subst e; rfl)))
    · exact hb
/-- one cell of a field is written -/
theorem cells_put {w : World} {g k : Nat} {c0 c1 c2 c3 : Value} (d0 : w.cell? ⟨g, k * 4, none⟩ = some c0) (d1 : w.cell? ⟨g, k * 4 + 1, none⟩ = some c1) (d2 : w.cell? ⟨g, k * 4 + 2, none⟩ = some c2) (d3 : w.cell? ⟨g, k * 4 + 3, none⟩ = some c3) {j : Nat} (hj : j < 4) (u : Value) :
    ∀ i v, ([c0, c1, c2, c3].set j u)[i]? = some v → (w.setCell ⟨g, k * 4 + j, none⟩ u).cell? ⟨g, k * 4 + i, none⟩ = some v := by
  intro i v hv
  have hi : i < 4 := by have := (List.getElem?_eq_some_iff.1 hv).1; rwa [List.length_set] at this
  have d : ∃ x, w.cell? ⟨g, k * 4 + j, none⟩ = some x := by
    match j, hj with
    | 0, _ => exact ⟨_, d0⟩
    | 1, _ => exact ⟨_, d1⟩
    | 2, _ => exact ⟨_, d2⟩
    | 3, _ => exact ⟨_, d3⟩
  obtain ⟨x, hx⟩ := d
  by_cases hij : i = j
  · subst hij
    rw [List.getElem?_set_self (by simpa using hi)] at hv
    injection hv with hv
    subst hv
    exact World.cell?_setCell_same _ _ _ hx
  · rw [List.getElem?_set_ne (by omega)] at hv
    rw [World.cell?_setCell_other _ _ _ _ (by intro e; injection e with _ e; omega)]
    match i, hi with
    | 0, _ => injection hv with hv; subst hv; exact d0
    | 1, _ => injection hv with hv; subst hv; exact d1
    | 2, _ => injection hv with hv; subst hv; exact d2
    | 3, _ => injection hv with hv; subst hv; exact d3
theorem cells_off {w : World} {g k j : Nat} (hj : j < 4) (u : Value) : ∀ i, i < k * 4 ∨ k * 4 + 4 ≤ i → (w.setCell ⟨g, k * 4 + j, none⟩ u).cell? ⟨g, i, none⟩ = w.cell? ⟨g, i, none⟩ := fun i hi =>
  World.cell?_setCell_other _ _ _ _ (by intro e; injection e with _ e; omega)
theorem only_put (w : World) (g i : Nat) (u : Value) : Only (fun q => q = g) w (w.setCell ⟨g, i, none⟩ u) := Only.setCell_ (S := fun q => q = g) (Only.refl _ w) (p := ⟨g, i, none⟩) (.inl rfl) u
set_option maxHeartbeats 8000000 in
attribute [local go_sem ↓] wp_load_hd wp_store_hd wp_load_bl wp_store_bl in
theorem blockFields_any (w : World) (x : Hd) (hx : x.fits) (tv : Value) (txs : List (List UInt8)) (ht : TxsAt w tv txs) (hsz : lenSum txs + txs.length ≤ 4611686018427387904) (an cn qn : Nat) (han : an < 256) (hcn : cn < 256) (hqn : qn < 18446744073709551616) :
    Calls Try.prog 5 #[blV x tv, .int .u8 (an : Int), .int .u8 (cn : Int), .int .u64 (qn : Int)] w fun e w' => e = .returned (.bool true) ∧ Below w.heap.size w w' := by
  obtain ⟨cb, hcb⟩ : ∃ cb, (blCells x tv).toArray = cb := ⟨_, rfl⟩
  have o1 := ht.oneCell
  show Calls _ _ #[.agg (blCells x tv).toArray, _, _, _] _ _
  rw [hcb]
  have HCB := Lib.hid hcb
  have HO := Lib.hid o1
  have HT := Lib.hid ht
  have HX := Lib.hid hx
  have HSZ := Lib.hid hsz
  have HQN := Lib.hid hqn
  clear hcb ht hx hsz o1
  go_enter Try.func5, Try.ntmps5
  go_upto_region 1 with (fail)
  generalize hw1 : World.alloc _ _ = w1
  have hb1 : Below w.heap.size w w1 := by rw [← hw1]; exact below_one
  have hk1 : Blk w1 w.heap.size 28 (blCells x tv).toArray := by rw [← hw1, HCB.out]; exact heap_alloc_new _ _
  obtain ⟨g, hg⟩ : ∃ g, w.heap.size = g := ⟨_, rfl⟩
  rw [hg] at hk1
  rw [show (⟨w.heap.size, 0, none⟩ : Addr) = ⟨g, 0, none⟩ by rw [hg]]
  have HB1 := Lib.hid hb1
  have HT1 := Lib.hid (HT.out.below hb1)
  have HST : Hid (BlS g x tv w1) := Lib.hid (bl_rangeAll hk1)
  clear hw1 hb1 hk1 hg HT
  have hrg : w1.rangeAt g 0 (blCells x tv) := HST.out
  have q1 := aggOk_mk hrg (blCells_len _ _)
  have q2 := loadN_eq hrg (blCells_len _ _)
  clear hrg
  obtain ⟨nn, hnn⟩ : ∃ nn, txs.length + lenSum txs = nn := ⟨_, rfl⟩
  have HNN := Lib.hid hnn
  go_wp2_with fail
  refine (small_any w1 x tv txs HT1.out HSZ.out).mono ?_
  rintro e w2 ⟨rfl, hb2⟩
  rw [hnn]
  have HB2 := Lib.hid (HB1.out.trans (hb2.mono HB1.out.size))
  have HT2 := Lib.hid (HT1.out.below hb2)
  have HK2 := Lib.hid (HST.out.below hb2)
  clear hb2 hnn q1 q2 HB1 HT1 HST
  by_cases hsm : nn < 300
  case neg =>
    rw [decide_eq_false hsm]
    clear hsm HNN
    go_wp2_with fail
    refine (known_any w2).mono ?_
    rintro e w3 ⟨rfl, hb3⟩
    have HB3 := Lib.hid (HB2.out.trans (hb3.mono HB2.out.size))
    clear hb3
    go_wp2_with fail
    go_ret
    exact ⟨rfl, HB3.out⟩
  rw [decide_eq_true hsm]
  have HSUM : Hid (txsSum txs ≤ 6300) := Lib.hid (by rw [lenSum_txs]; have := HNN.out; omega)
  clear hsm HNN HSZ
  have hrg : w2.rangeAt g 0 (blCells x tv) := HK2.out
  have q1 := aggOk_mk hrg (blCells_len _ _)
  have q2 := loadN_eq hrg (blCells_len _ _)
  clear hrg
  go_wp2_with fail
  refine (near_any w2 x HX.out tv HO.out 0 (by omega) (by omega)).mono ?_
  rintro e w3 ⟨y, hyf, rfl, hbn⟩
  have HYF := Lib.hid hyf
  have HB3 := Lib.hid (HB2.out.trans (hbn.mono HB2.out.size))
  have HT3 := Lib.hid (HT2.out.below hbn)
  clear hbn hyf q1 q2 HB2 HT2 HK2
  go_wp2_with fail
  refine (form_any w3 y HYF.out tv txs HT3.out (by have := HSUM.out; omega)).mono ?_
  rintro e w4 ⟨mv, rfl, hbn, hof⟩
  obtain ⟨F, hF⟩ : ∃ F, form y txs = F := ⟨_, rfl⟩
  have HTL : Hid (txs.length ≤ 400 ∧ ∀ b ∈ txs, b.length < 2 ^ 64) := Lib.hid ⟨by have h1 := lenSum_txs txs; have := HSUM.out; omega, fun b hb => by have h1 := txs_mem hb; have := HSUM.out; omega⟩
  have hpF : parse F 0 = some (blkFields y txs) := by rw [← hF]; exact parse_msg _ 0 (blkFields_okay HYF.out HTL.out.2) (by rw [blkFields_len]; have := HTL.out.1; omega)
  have hFl : F.length ≤ 7000 := by rw [← hF]; have := form_le HYF.out (txs := txs) (by have := HSUM.out; omega); have := HSUM.out; omega
  rw [hF] at hof
  have hsf := hof.see
  have HB4 := Lib.hid (HB3.out.trans (hbn.mono HB3.out.size))
  have HM4 := Lib.hid hsf
  have HPF := Lib.hid hpF
  have HW4 : Hid (w.heap.size ≤ w4.heap.size) := Lib.hid HB4.out.size
  have HFL : Hid (F.length ≤ 1073741824) := Lib.hid (by omega)
  clear hF hbn hof hsf hFl hpF HT3 HB3
  go_wp2_with fail
  refine (rfields_any w4 mv F HM4.out HFL.out).mono ?_
  rintro e w5 ⟨hbn, he5⟩
  rw [HPF.out] at he5
  obtain ⟨lv, L0, rfl, hol, hml⟩ := he5
  have hll : L0.length = 1 + txs.length := by have := congrArg List.length hml; rwa [List.length_map, blkFields_len] at this
  have HB5 := Lib.hid (HB4.out.trans (hbn.mono HB4.out.size))
  obtain ⟨gl, cl, hlv, f, Af, cf, hf0, hsf, d0, d1, d2, d3⟩ := hol.at_ (k := 0) (by omega)
  obtain ⟨T, hT⟩ : ∃ T, L0.length = T := ⟨_, rfl⟩
  have hfe : f = bytF 1 (headerB y) := by
    have h1 : (L0.map FItem.f)[0]? = some f := by rw [List.getElem?_map, hf0]; rfl
    rw [hml] at h1
    exact (Option.some.inj h1).symm
  rw [hT] at hlv hll
  subst hlv
  have hfb : f.bytes = headerB y := by rw [hfe]; rfl
  simp only [Nat.zero_mul, Nat.zero_add] at d0 d1 d2 d3
  rw [hfb] at hsf d3
  obtain ⟨fl, hfl⟩ : ∃ fl, (headerB y).length = fl := ⟨_, rfl⟩
  have hpH : parse (headerB y) 0 = some (hdFields y) := parse_msg _ 0 (hdFields_okay HYF.out) (by show 0 + 7 ≤ 1024; omega)
  have hHl := headerB_le HYF.out
  have HPH := Lib.hid hpH
  have HHL : Hid ((headerB y).length ≤ 1073741824) := Lib.hid (by omega)
  have HSF := Lib.hid hsf
  have HOL := Lib.hid hol
  have HML := Lib.hid hml
  have HTT := Lib.hid hT
  have HF0 := Lib.hid hf0
  have HFE := Lib.hid hfe
  have HLL := Lib.hid hll
  rw [hfl] at d3 HSF
  have HFL2 := Lib.hid hfl
  have tl0 : (0 : Int) < (T : Int) := by omega
  clear hpH hHl hsf hol hml hT hf0 hfe hll hfb hfl hbn HB4 HM4
  go_wp2_with fail
  refine (rfields_any w5 _ (headerB y) HSF.out HHL.out).mono ?_
  rintro e w6 ⟨hbn, he6⟩
  rw [HPH.out] at he6
  obtain ⟨hv, H0, rfl, hoh, hmh⟩ := he6
  have hhl : H0.length = 7 := by have := congrArg List.length hmh; rwa [List.length_map] at this
  obtain ⟨k, hk⟩ : ∃ k, an % 7 = k := ⟨_, rfl⟩
  have hk7 : k < 7 := by omega
  obtain ⟨gh, ch, hhv, f6, A6, c6, h60, hs6, e0, e1, e2, e3⟩ := hoh.at_ (k := k) (by omega)
  rw [hhl] at hhv
  subst hhv
  have HB6 := Lib.hid hbn
  have HOH := Lib.hid hoh
  have HMH := Lib.hid hmh
  have HHH := Lib.hid hhl
  have H60 := Lib.hid h60
  have HS6 := Lib.hid hs6
  have g1 : IntKind.i64.wrap (an : Int) = (an : Int) := IntWalk.i64_in _ (by omega)
  have g3 : (an : Int).tmod 7 = (k : Int) := by rw [Int.tmod_eq_emod_of_nonneg (by omega), ← hk]; omega
  obtain ⟨t, ht⟩ : ∃ t, cn % 5 = t := ⟨_, rfl⟩
  have ht5 : t < 5 := by omega
  have g4 : (cn : Int).tmod 5 = (t : Int) := by rw [Int.tmod_eq_emod_of_nonneg (by omega), ← ht]; omega
  have g5 : (cn : Int) % 5 = (t : Int) := by omega
  have hki : (k : Int) < 7 := by omega
  have HK7 := Lib.hid hk7
  have HT5 := Lib.hid ht5
  clear hbn hoh hmh hhl h60 hs6 hk ht hk7 ht5 HPH HHL HSF d0 d1 d2 d3
  have hH32 : ∀ x ∈ H0, x.f.bytes.length ≤ 32 ∧ x.f.val < 2 ^ 64 := fun x hx => hd_32 y HYF.out x.f (by rw [← HMH.out]; exact List.mem_map.2 ⟨x, hx, rfl⟩)
  have hat := hd_at (y := y) (k := k) (f := f6) (by rw [← HMH.out, List.getElem?_map, H60.out]; rfl)
  have HAT := Lib.hid hat
  have H32 := Lib.hid hH32
  have HMEM : Hid (⟨f6, .slice A6 f6.bytes.length c6⟩ ∈ H0) := Lib.hid (take_one_drop H60.out)
  have HSEE : Hid (∀ x ∈ H0, SeeB w6 x.v x.f.bytes) := Lib.hid (fun x hx => (HOH.out.byt x hx).see)
  clear hH32 hat
  go_upto_block 0 with (fail)
  go_cut [13] (fun s wx => HdLeft w5 wx s)
  case first =>
    have hk7 := HK7.out
    have hrc := HOH.out.reads HHH.out
    rcases (show t = 0 ∨ t = 1 ∨ t = 2 ∨ t = 3 ∨ t = 4 by have := HT5.out; omega) with h0 | h0 | h0 | h0 | h0
    · subst h0
      have hg1 : IntKind.i64.wrap ((k : Int) + 1) = (k : Int) + 1 := IntWalk.i64_in _ (by omega)
      obtain ⟨i0, hi0, hz0, hz1, hz2⟩ := info_parts fld_info
      have HI0 := Lib.hid hi0
      have HZ0 := Lib.hid hz0
      obtain ⟨Ax, cx, hrx, hsx⟩ := flds_upto hrc.1 HHH.out hrc.2 (k := k) (by omega)
      obtain ⟨Ay, cy, hry, hsy⟩ := flds_from hrc.1 HHH.out hrc.2 (k := k + 1) (by omega) (z := (k : Int) + 1) (by omega)
      obtain ⟨ny, hny⟩ : ∃ n, 7 - (k + 1) = n := ⟨_, rfl⟩
      have hny7 : k + ny ≤ 6 := by omega
      have hny8 : 6 ≤ k + ny := by omega
      rw [hny] at hry hsy
      have HNY := Lib.hid hny
      clear hny
      have HRX : Hid (∀ W, Below w6.heap.size w6 W → Reads W w6.heap.size 4 Ax k (fldsOf (H0.take k))) := Lib.hid (fun W hW => hrx.below hW)
      have HRY : Hid (∀ W, Below w6.heap.size w6 W → Reads W w6.heap.size 4 Ay ny (fldsOf (H0.drop (k + 1)))) := Lib.hid (fun W hW => hry.below hW)
      have HOX : Hid (∀ u ∈ fldsOf (H0.take k), u.oneCell' = true) := Lib.hid (fldsOf_one_ (fun x hx => (HSEE.out x (List.mem_of_mem_take hx)).oneCell))
      have HOY : Hid (∀ u ∈ fldsOf (H0.drop (k + 1)), u.oneCell' = true) := Lib.hid (fldsOf_one_ (fun x hx => (HSEE.out x (List.mem_of_mem_drop hx)).oneCell))
      have HRG := Lib.hid hrc
      clear hrx hry hi0 hz0 hrc e0 e1 e2 e3
      have tk0 : (0 : Int) ≤ (k : Int) := by omega
      have tk1 : (k : Int) ≤ 7 := by omega
      have tk2 : (k : Int) + 1 ≤ 7 := by omega
      have tk3 : (0 : Int) ≤ (k : Int) + 1 := by omega
      go_upto_region 10 with (fail)
      refine wp_region_noPanic ?_
      refine wp_region_held_drew (S := fun _ => True) (by kernel_rfl) trivial (fun hHeld => ?_)
      refine wpAnyH_take (i := 1) (oi := ⟨some 66, _, _, _, _, _⟩) (v := ?_) rfl (by kernel_rfl) (by kernel_rfl) (by kernel_rfl) (fun _ _ _ h => h) (Or.inl ⟨by kernel_rfl, ?_⟩) hHeld ?_
      rotate_left
      · intro w hSw
        (try dsimp only at hSw)
        go_simp
        all_goals (with_reducible rfl)
      conv => arg 8; simp only [Act.put, List.setIfInBounds_toArray, List.set_cons_zero, List.set_cons_succ]
      refine wpAnyH_take (i := 2) (oi := ⟨some 67, _, _, _, _, _⟩) (v := ?_) rfl (by kernel_rfl) (by kernel_rfl) (by kernel_rfl) (fun _ _ _ h => h) (Or.inl ⟨by kernel_rfl, ?_⟩) hHeld ?_
      rotate_left
      · intro w hSw
        (try dsimp only at hSw)
        go_simp
        all_goals (with_reducible rfl)
      conv => arg 8; simp only [Act.put, List.setIfInBounds_toArray, List.set_cons_zero, List.set_cons_succ]
      refine wpAnyH_take (i := 3) (oi := ⟨some 68, _, _, _, _, _⟩) (v := ?_) rfl (by kernel_rfl) (by kernel_rfl) (by kernel_rfl) (fun _ _ _ h => h) (Or.inl ⟨by kernel_rfl, ?_⟩) hHeld ?_
      rotate_left
      · intro w hSw
        (try dsimp only at hSw)
        go_simp
        all_goals (with_reducible rfl)
      conv => arg 8; simp only [Act.put, List.setIfInBounds_toArray, List.set_cons_zero, List.set_cons_succ]
      refine wpAnyH_take (i := 5) (oi := ⟨some 70, _, _, _, _, _⟩) (v := ?_) rfl (by kernel_rfl) (by kernel_rfl) (by kernel_rfl) (fun _ _ _ h => h) (Or.inl ⟨by kernel_rfl, ?_⟩) hHeld ?_
      rotate_left
      · intro w hSw
        (try dsimp only at hSw)
        go_simp
        all_goals (with_reducible rfl)
      conv => arg 8; simp only [Act.put, List.setIfInBounds_toArray, List.set_cons_zero, List.set_cons_succ]
      refine wpAnyH_take (i := 6) (oi := ⟨some 71, _, _, _, _, _⟩) (v := ?_) rfl (by kernel_rfl) (by kernel_rfl) (by kernel_rfl) (fun _ _ _ h => h) (Or.inl ⟨by kernel_rfl, ?_⟩) hHeld ?_
      rotate_left
      · intro w hSw
        (try dsimp only at hSw)
        go_simp
        all_goals (with_reducible rfl)
      conv => arg 8; simp only [Act.put, List.setIfInBounds_toArray, List.set_cons_zero, List.set_cons_succ]
      refine wpAnyH_take (i := 7) (oi := ⟨some 72, _, _, _, _, _⟩) (v := ?_) rfl (by kernel_rfl) (by kernel_rfl) (by kernel_rfl) (fun _ _ _ h => h) (Or.inl ⟨by kernel_rfl, ?_⟩) hHeld ?_
      rotate_left
      · intro w hSw
        (try dsimp only at hSw)
        go_simp
        all_goals (with_reducible rfl)
      conv => arg 8; simp only [Act.put, List.setIfInBounds_toArray, List.set_cons_zero, List.set_cons_succ]
      refine wpAnyH_take (i := 8) (oi := ⟨some 73, _, _, _, _, _⟩) (v := ?_) rfl (by kernel_rfl) (by kernel_rfl) (by kernel_rfl) (fun _ _ _ h => h) (Or.inl ⟨by kernel_rfl, ?_⟩) hHeld ?_
      rotate_left
      · intro w hSw
        (try dsimp only at hSw)
        go_simp
        all_goals (with_reducible rfl)
      conv => arg 8; simp only [Act.put, List.setIfInBounds_toArray, List.set_cons_zero, List.set_cons_succ]
      generalize hW : World.drew _ = wd at hHeld ⊢
      have hbd : Below w6.heap.size w6 wd := by rw [← hW]; exact belowDrewR (Below.refl _ _)
      have HBD := Lib.hid hbd
      clear hbd hW
      refine wpAnyH_ready (rs := [0]) (by kernel_rfl) (by simp) ?_
      refine (AllReadyH.cons (o := ⟨some 65, _, _, _, _, _⟩) rfl (fun K hK => ?_) AllReadyH.nil)
      go_simp
      refine hK.out _ _ (by trivial) (fun hHeld => ?_)
      clear hK K
      conv => arg 8; simp only [Act.put, List.setIfInBounds_toArray, List.set_cons_zero, List.set_cons_succ]
      generalize hW : World.alloc _ _ = v1w at hHeld ⊢
      have hbx : Below wd.heap.size wd v1w := by rw [← hW]; exact (Below.refl _ _).alloc (Nat.le_refl _) _
      have hox : v1w.ownsRow w6.heap.size 50 4 (.slice (some ⟨wd.heap.size, 0, none⟩) 0 0) 0 [] := by rw [← hW]; exact owns_base2 (empty_ownF _) HBD.out.size
      have HOv1w := Lib.hid hox
      clear hox
      have HBv1w := Lib.hid (HBD.out.trans (hbx.mono HBD.out.size))
      clear hbx hW
      refine wpAnyH_ready (rs := [4]) (by kernel_rfl) (by simp) ?_
      refine (AllReadyH.cons (o := ⟨some 69, _, _, _, _, _⟩) rfl (fun K hK => ?_) AllReadyH.nil)
      refine step_append_any _ (by rfl) (.tmp 65) (.tmp 68) _ (by rfl) w6.heap.size 50 i0 _ 4 48 Try.underlying46 HI0.out HZ0.out hz1 hz2 rfl (by omega) (.slice (some ⟨wd.heap.size, 0, none⟩) 0 0) (0) ([]) (by rfl) HOv1w.out _ Ax (k) cx (fldsOf (H0.take k)) (by rfl) (HRX.out _ HBv1w.out) (HOX.out) (by unfold maxLen; omega) (by omega) HBv1w.out.size ?_
      intro v3 v2w ho hg hat
      rw [Nat.zero_add, List.nil_append] at ho
      obtain ⟨Av2w, cv2w, rfl⟩ := own_form ho
      have hb1x : Below w6.heap.size w6 v2w := HBv1w.out.grown hg HBv1w.out.size (fun g e => (HOv1w.out.lt g e).1)
      have HOv2w := Lib.hid ho
      have HBv2w := Lib.hid hb1x
      clear ho hg hat hb1x
      refine hK.out _ _ (by trivial) (fun hHeld => ?_)
      clear hK K
      conv => arg 8; simp only [Act.put, List.setIfInBounds_toArray, List.set_cons_zero, List.set_cons_succ]
      refine wpAnyH_ready (rs := [9]) (by kernel_rfl) (by simp) ?_
      refine (AllReadyH.cons (o := ⟨some 74, _, _, _, _, _⟩) rfl (fun K hK => ?_) AllReadyH.nil)
      refine step_append_any _ (by rfl) (.tmp 69) (.tmp 73) _ (by rfl) w6.heap.size 50 i0 _ 4 48 Try.underlying46 HI0.out HZ0.out hz1 hz2 rfl (by omega) (.slice Av2w (k) cv2w) (k) (fldsOf (H0.take k)) (by rfl) HOv2w.out _ Ay (ny) cy (fldsOf (H0.drop (k + 1))) (by rfl) (HRY.out _ HBv2w.out) (HOY.out) (by unfold maxLen; omega) (by omega) HBv2w.out.size ?_
      intro v3 v3w ho hg hat
      skip
      obtain ⟨Av3w, cv3w, rfl⟩ := own_form ho
      have hb1x : Below w6.heap.size w6 v3w := HBv2w.out.grown hg HBv2w.out.size (fun g e => (HOv2w.out.lt g e).1)
      have HOv3w := Lib.hid ho
      have HBv3w := Lib.hid hb1x
      clear ho hg hat hb1x
      refine hK.out _ _ (by trivial) (fun hHeld => ?_)
      clear hK K
      conv => arg 8; simp only [Act.put, List.setIfInBounds_toArray, List.set_cons_zero, List.set_cons_succ]
      refine wpAnyH_take (i := 10) (oi := ⟨some 13, _, _, _, _, _⟩) (v := ?_) rfl (by kernel_rfl) (by kernel_rfl) (by kernel_rfl) (fun _ _ _ h => h) (Or.inl ⟨by kernel_rfl, ?_⟩) hHeld ?_
      rotate_left
      · intro w hSw
        (try dsimp only at hSw)
        go_simp
        all_goals (with_reducible rfl)
      conv => arg 8; simp only [Act.put, List.setIfInBounds_toArray, List.set_cons_zero, List.set_cons_succ]
      refine wpAnyH_done (by kernel_rfl) ?_ _
      refine NoPanic.normal ?_
      have HOO := HOv3w
      have HBO := HBv3w
      clear hHeld
      go_wp2_with fail
      go_meet
      refine ⟨HB6.out.trans (HBO.out.mono HB6.out.size), _, _, _, H0.take k ++ H0.drop (k + 1), rfl, FldsAt.of_own (base := w6.heap.size) (by first | exact HOO.out | (simp only [fldsOf_append]; exact HOO.out)) (by first | (simp only [List.length_append, List.length_take, List.length_drop, List.length_singleton, HHH.out]; omega) | skip) (fun x hx => ((HSEE.out x (mem_td hx)).below HBO.out)), by omega, fun x hx => H32.out x (mem_td hx)⟩
    · subst h0
      obtain ⟨i0, hi0, hz0, hz1, hz2⟩ := info_parts fld_info
      have HI0 := Lib.hid hi0
      have HZ0 := Lib.hid hz0
      obtain ⟨q6, hq6⟩ : ∃ q, f6.bytes.length = q := ⟨_, rfl⟩
      rw [hq6] at e3
      have HME2 : Hid (⟨f6, .slice A6 q6 c6⟩ ∈ H0) := Lib.hid (by have := HMEM.out; rw [hq6] at this; exact this)
      have hks : w6.rangeAt gh (k * 4) [.int .i64 f6.num, .int .i64 f6.kind, .int .u64 (f6.val : Int), .slice A6 q6 c6] := fun j u hu => by
        have hj : j < 4 := (List.getElem?_eq_some_iff.1 hu).1
        match j, hj with
        | 0, _ => injection hu with hu; subst hu; exact e0
        | 1, _ => injection hu with hu; subst hu; exact e1
        | 2, _ => injection hu with hu; subst hu; exact e2
        | 3, _ => injection hu with hu; subst hu; exact e3
      have hu := Try.underlying50
      have ifd : (Try.prog.info? 50).map (·.size) = some [Value.int .i64 f6.num, .int .i64 f6.kind, .int .u64 (f6.val : Int), .slice A6 q6 c6].length := by kernel_rfl
      obtain ⟨Ax, cx, hrx, hsx⟩ := flds_upto hrc.1 HHH.out hrc.2 (k := k) (by omega)
      obtain ⟨Ay, cy, hry, hsy⟩ := flds_from hrc.1 HHH.out hrc.2 (k := k) (by omega) (z := (k : Int)) rfl
      obtain ⟨ny, hny⟩ : ∃ n, 7 - k = n := ⟨_, rfl⟩
      have hny7 : k + ny ≤ 7 := by omega
      have hny8 : 7 ≤ k + ny := by omega
      rw [hny] at hry hsy
      have HNY := Lib.hid hny
      have HQ6 := Lib.hid hq6
      clear hny hq6
      have HRX : Hid (∀ W, Below w6.heap.size w6 W → Reads W w6.heap.size 4 Ax k (fldsOf (H0.take k))) := Lib.hid (fun W hW => hrx.below hW)
      have HRY : Hid (∀ W, Below w6.heap.size w6 W → Reads W w6.heap.size 4 Ay ny (fldsOf (H0.drop k))) := Lib.hid (fun W hW => hry.below hW)
      have HOX : Hid (∀ u ∈ fldsOf (H0.take k), u.oneCell' = true) := Lib.hid (fldsOf_one_ (fun x hx => (HSEE.out x (List.mem_of_mem_take hx)).oneCell))
      have HOY : Hid (∀ u ∈ fldsOf (H0.drop k), u.oneCell' = true) := Lib.hid (fldsOf_one_ (fun x hx => (HSEE.out x (List.mem_of_mem_drop hx)).oneCell))
      have HOK : Hid (∀ u ∈ fldsOf [⟨f6, .slice A6 q6 c6⟩], u.oneCell' = true) := Lib.hid (fldsOf_one_ (fun x hx => by rw [List.mem_singleton.1 hx]; rfl))
      have HRG := Lib.hid hrc
      clear hrx hry hi0 hz0 hrc e0 e1 e2 e3
      have tk0 : (0 : Int) ≤ (k : Int) := by omega
      have tk1 : (k : Int) ≤ 7 := by omega
      go_upto_region 12 with (fail)
      refine wp_region_noPanic ?_
      refine wp_region_held_drew (S := fun W => W.rangeAt gh (k * 4) [.int .i64 f6.num, .int .i64 f6.kind, .int .u64 (f6.val : Int), .slice A6 q6 c6]) (by kernel_rfl) hks (fun hHeld => ?_)
      refine wpAnyH_take (i := 1) (oi := ⟨some 78, _, _, _, _, _⟩) (v := ?_) rfl (by kernel_rfl) (by kernel_rfl) (by kernel_rfl) (fun _ _ _ h => h) (Or.inl ⟨by kernel_rfl, ?_⟩) hHeld ?_
      rotate_left
      · intro w hSw
        (try dsimp only at hSw)
        go_simp
        all_goals (with_reducible rfl)
      conv => arg 8; simp only [Act.put, List.setIfInBounds_toArray, List.set_cons_zero, List.set_cons_succ]
      refine wpAnyH_take (i := 2) (oi := ⟨some 79, _, _, _, _, _⟩) (v := ?_) rfl (by kernel_rfl) (by kernel_rfl) (by kernel_rfl) (fun _ _ _ h => h) (Or.inl ⟨by kernel_rfl, ?_⟩) hHeld ?_
      rotate_left
      · intro w hSw
        (try dsimp only at hSw)
        go_simp
        all_goals (with_reducible rfl)
      conv => arg 8; simp only [Act.put, List.setIfInBounds_toArray, List.set_cons_zero, List.set_cons_succ]
      refine wpAnyH_take (i := 3) (oi := ⟨some 80, _, _, _, _, _⟩) (v := ?_) rfl (by kernel_rfl) (by kernel_rfl) (by kernel_rfl) (fun _ _ _ h => h) (Or.inl ⟨by kernel_rfl, ?_⟩) hHeld ?_
      rotate_left
      · intro w hSw
        (try dsimp only at hSw)
        go_simp
        all_goals (with_reducible rfl)
      conv => arg 8; simp only [Act.put, List.setIfInBounds_toArray, List.set_cons_zero, List.set_cons_succ]
      refine wpAnyH_take (i := 5) (oi := ⟨some 82, _, _, _, _, _⟩) (v := ?_) rfl (by kernel_rfl) (by kernel_rfl) (by kernel_rfl) (fun _ _ _ h => h) (Or.inl ⟨by kernel_rfl, ?_⟩) hHeld ?_
      rotate_left
      · intro w hSw
        (try dsimp only at hSw)
        go_simp
        all_goals (with_reducible rfl)
      conv => arg 8; simp only [Act.put, List.setIfInBounds_toArray, List.set_cons_zero, List.set_cons_succ]
      refine wpAnyH_take (i := 6) (oi := ⟨some 83, _, _, _, _, _⟩) (v := ?_) rfl (by kernel_rfl) (by kernel_rfl) (by kernel_rfl) (fun _ _ _ h => h) (Or.inl ⟨by kernel_rfl, ?_⟩) hHeld ?_
      rotate_left
      · intro w hSw
        (try dsimp only at hSw)
        go_simp
        all_goals (with_reducible rfl)
      conv => arg 8; simp only [Act.put, List.setIfInBounds_toArray, List.set_cons_zero, List.set_cons_succ]
      refine wpAnyH_take (i := 7) (oi := ⟨some 84, _, _, _, _, _⟩) (v := ?_) rfl (by kernel_rfl) (by kernel_rfl) (by kernel_rfl) (fun _ _ _ h => h) (Or.inl ⟨by kernel_rfl, ?_⟩) hHeld ?_
      rotate_left
      · intro w hSw
        (try dsimp only at hSw)
        go_simp
        all_goals (with_reducible rfl)
      conv => arg 8; simp only [Act.put, List.setIfInBounds_toArray, List.set_cons_zero, List.set_cons_succ]
      refine wpAnyH_take (i := 8) (oi := ⟨some 85, _, _, _, _, _⟩) (v := _) rfl (by kernel_rfl) (by kernel_rfl) (by kernel_rfl) (fun _ _ _ h => h) (yieldsIf_load_mid (S := fun W => W.rangeAt gh (k * 4) [.int .i64 f6.num, .int .i64 f6.kind, .int .u64 (f6.val : Int), .slice A6 q6 c6]) (by kernel_rfl) _ _ rfl _ _ rfl _ _ (fun w hSw => hSw) hu rfl ifd) hHeld ?_
      conv => arg 8; simp only [Act.put, List.setIfInBounds_toArray, List.set_cons_zero, List.set_cons_succ]
      refine wpAnyH_take (i := 11) (oi := ⟨some 88, _, _, _, _, _⟩) (v := ?_) rfl (by kernel_rfl) (by kernel_rfl) (by kernel_rfl) (fun _ _ _ h => h) (Or.inl ⟨by kernel_rfl, ?_⟩) hHeld ?_
      rotate_left
      · intro w hSw
        (try dsimp only at hSw)
        go_simp
        all_goals (with_reducible rfl)
      conv => arg 8; simp only [Act.put, List.setIfInBounds_toArray, List.set_cons_zero, List.set_cons_succ]
      refine wpAnyH_take (i := 12) (oi := ⟨some 89, _, _, _, _, _⟩) (v := ?_) rfl (by kernel_rfl) (by kernel_rfl) (by kernel_rfl) (fun _ _ _ h => h) (Or.inl ⟨by kernel_rfl, ?_⟩) hHeld ?_
      rotate_left
      · intro w hSw
        (try dsimp only at hSw)
        go_simp
        all_goals (with_reducible rfl)
      conv => arg 8; simp only [Act.put, List.setIfInBounds_toArray, List.set_cons_zero, List.set_cons_succ]
      refine wpAnyH_take (i := 13) (oi := ⟨some 90, _, _, _, _, _⟩) (v := ?_) rfl (by kernel_rfl) (by kernel_rfl) (by kernel_rfl) (fun _ _ _ h => h) (Or.inl ⟨by kernel_rfl, ?_⟩) hHeld ?_
      rotate_left
      · intro w hSw
        (try dsimp only at hSw)
        go_simp
        all_goals (with_reducible rfl)
      conv => arg 8; simp only [Act.put, List.setIfInBounds_toArray, List.set_cons_zero, List.set_cons_succ]
      generalize hW : World.drew _ = wd at hHeld ⊢
      have hbd : Below w6.heap.size w6 wd := by rw [← hW]; exact belowDrewR (Below.refl _ _)
      have HBD := Lib.hid hbd
      clear hbd hW
      refine wpAnyH_ready (rs := [0, 9]) (by kernel_rfl) (by simp) ?_
      refine (AllReadyH.cons (o := ⟨some 77, _, _, _, _, _⟩) rfl (fun K hK => ?_) (AllReadyH.cons (o := ⟨some 86, _, _, _, _, _⟩) rfl (fun K hK => ?_) AllReadyH.nil))
      · go_simp
        refine hK.out _ _ (by exact rangeAt_belowG (w := w6) hks (by first | exact HBD.out | exact below_al HBD.out _ | exact hb1x)) (fun hHeld => ?_)
        clear hK K
        conv => arg 8; simp only [Act.put, List.setIfInBounds_toArray, List.set_cons_zero, List.set_cons_succ]
        generalize hW : World.alloc _ _ = v1w at hHeld ⊢
        have hbx : Below wd.heap.size wd v1w := by rw [← hW]; exact (Below.refl _ _).alloc (Nat.le_refl _) _
        have hox : v1w.ownsRow w6.heap.size 50 4 (.slice (some ⟨wd.heap.size, 0, none⟩) 0 0) 0 [] := by rw [← hW]; exact owns_base2 (empty_ownF _) HBD.out.size
        have HOv1w := Lib.hid hox
        clear hox
        have HBv1w := Lib.hid (HBD.out.trans (hbx.mono HBD.out.size))
        clear hbx hW
        refine wpAnyH_ready (rs := [4, 9]) (by kernel_rfl) (by simp) ?_
        refine (AllReadyH.cons (o := ⟨some 81, _, _, _, _, _⟩) rfl (fun K hK => ?_) (AllReadyH.cons (o := ⟨some 86, _, _, _, _, _⟩) rfl (fun K hK => ?_) AllReadyH.nil))
        · refine step_append_any _ (by rfl) (.tmp 77) (.tmp 80) _ (by rfl) w6.heap.size 50 i0 _ 4 48 Try.underlying46 HI0.out HZ0.out hz1 hz2 rfl (by omega) (.slice (some ⟨wd.heap.size, 0, none⟩) 0 0) (0) ([]) (by rfl) HOv1w.out _ Ax (k) cx (fldsOf (H0.take k)) (by rfl) (HRX.out _ HBv1w.out) (HOX.out) (by unfold maxLen; omega) (by omega) HBv1w.out.size ?_
          intro v3 v2w ho hg hat
          rw [Nat.zero_add, List.nil_append] at ho
          obtain ⟨Av2w, cv2w, rfl⟩ := own_form ho
          have hb1x : Below w6.heap.size w6 v2w := HBv1w.out.grown hg HBv1w.out.size (fun g e => (HOv1w.out.lt g e).1)
          have HOv2w := Lib.hid ho
          have HBv2w := Lib.hid hb1x
          clear ho hg hat hb1x
          refine hK.out _ _ (by exact rangeAt_belowG (w := w6) hks (by first | exact HBv2w.out | exact below_al HBv2w.out _ | exact hb1x)) (fun hHeld => ?_)
          clear hK K
          conv => arg 8; simp only [Act.put, List.setIfInBounds_toArray, List.set_cons_zero, List.set_cons_succ]
          refine wpAnyH_ready (rs := [9]) (by kernel_rfl) (by simp) ?_
          refine (AllReadyH.cons (o := ⟨some 86, _, _, _, _, _⟩) rfl (fun K hK => ?_) AllReadyH.nil)
          go_simp
          refine hK.out _ _ (by exact rangeAt_belowG (w := w6) hks (by first | exact HBv2w.out | exact below_al HBv2w.out _ | exact hb1x)) (fun hHeld => ?_)
          clear hK K
          conv => arg 8; simp only [Act.put, List.setIfInBounds_toArray, List.set_cons_zero, List.set_cons_succ]
          generalize hW : World.alloc _ _ = v3w at hHeld ⊢
          have hbx : Below v2w.heap.size v2w v3w := by rw [← hW]; exact (Below.refl _ _).alloc (Nat.le_refl _) _
          have hxx : Blk v3w v2w.heap.size 50 #[.int .i64 f6.num, .int .i64 f6.kind, .int .u64 (f6.val : Int), .slice A6 q6 c6] := by rw [← hW]; exact heap_alloc_new _ _
          have HXv3w := Lib.hid hxx
          clear hxx
          have HNv3w : Hid (∀ g, Value.ownBlock (.slice Av2w (k) cv2w) = some g → g ≠ v2w.heap.size) := fun g e => Nat.ne_of_lt (HOv2w.out.lt g e).2
          have HOv3w := Lib.hid (owns_below HOv2w.out hbx)
          have HBv3w := Lib.hid (HBv2w.out.trans (hbx.mono HBv2w.out.size))
          clear hbx hW
          refine wpAnyH_ready (rs := [10]) (by kernel_rfl) (by simp) ?_
          refine (AllReadyH.cons (o := ⟨some 87, _, _, _, _, _⟩) rfl (fun K hK => ?_) AllReadyH.nil)
          refine step_append_any _ (by rfl) (.tmp 81) (.tmp 86) _ (by rfl) w6.heap.size 50 i0 _ 4 48 Try.underlying46 HI0.out HZ0.out hz1 hz2 rfl (by omega) (.slice Av2w (k) cv2w) (k) (fldsOf (H0.take k)) (by rfl) HOv3w.out _ (some ⟨v2w.heap.size, 0, none⟩) (1) 1 (fldsOf [⟨f6, .slice A6 q6 c6⟩]) (by rfl) (reads_fld (x := ⟨f6, .slice A6 q6 c6⟩) HXv3w.out) (HOK.out) (by unfold maxLen; omega) (by omega) HBv3w.out.size ?_
          intro v3 v4w ho hg hat
          skip
          obtain ⟨Av4w, cv4w, rfl⟩ := own_form ho
          have hb1x : Below w6.heap.size w6 v4w := HBv3w.out.grown hg HBv3w.out.size (fun g e => (HOv3w.out.lt g e).1)
          have HOv4w := Lib.hid ho
          have HBv4w := Lib.hid hb1x
          clear ho hg hat hb1x
          refine hK.out _ _ (by exact rangeAt_belowG (w := w6) hks (by first | exact HBv4w.out | exact below_al HBv4w.out _ | exact hb1x)) (fun hHeld => ?_)
          clear hK K
          conv => arg 8; simp only [Act.put, List.setIfInBounds_toArray, List.set_cons_zero, List.set_cons_succ]
          refine wpAnyH_ready (rs := [14]) (by kernel_rfl) (by simp) ?_
          refine (AllReadyH.cons (o := ⟨some 91, _, _, _, _, _⟩) rfl (fun K hK => ?_) AllReadyH.nil)
          refine step_append_any _ (by rfl) (.tmp 87) (.tmp 90) _ (by rfl) w6.heap.size 50 i0 _ 4 48 Try.underlying46 HI0.out HZ0.out hz1 hz2 rfl (by omega) (.slice Av4w (k + 1) cv4w) (k + 1) (fldsOf (H0.take k) ++ fldsOf [⟨f6, .slice A6 q6 c6⟩]) (by rfl) HOv4w.out _ Ay (ny) cy (fldsOf (H0.drop k)) (by rfl) (HRY.out _ HBv4w.out) (HOY.out) (by unfold maxLen; omega) (by omega) HBv4w.out.size ?_
          intro v3 v5w ho hg hat
          skip
          obtain ⟨Av5w, cv5w, rfl⟩ := own_form ho
          have hb1x : Below w6.heap.size w6 v5w := HBv4w.out.grown hg HBv4w.out.size (fun g e => (HOv4w.out.lt g e).1)
          have HOv5w := Lib.hid ho
          have HBv5w := Lib.hid hb1x
          clear ho hg hat hb1x
          refine hK.out _ _ (by exact rangeAt_belowG (w := w6) hks (by first | exact HBv5w.out | exact below_al HBv5w.out _ | exact hb1x)) (fun hHeld => ?_)
          clear hK K
          conv => arg 8; simp only [Act.put, List.setIfInBounds_toArray, List.set_cons_zero, List.set_cons_succ]
          refine wpAnyH_take (i := 15) (oi := ⟨some 13, _, _, _, _, _⟩) (v := ?_) rfl (by kernel_rfl) (by kernel_rfl) (by kernel_rfl) (fun _ _ _ h => h) (Or.inl ⟨by kernel_rfl, ?_⟩) hHeld ?_
          rotate_left
          · intro w hSw
            (try dsimp only at hSw)
            go_simp
            all_goals (with_reducible rfl)
          conv => arg 8; simp only [Act.put, List.setIfInBounds_toArray, List.set_cons_zero, List.set_cons_succ]
          refine wpAnyH_done (by kernel_rfl) ?_ _
          refine NoPanic.normal ?_
          have HOO := HOv5w
          have HBO := HBv5w
          clear hHeld
          go_wp2_with fail
          go_meet
          refine ⟨HB6.out.trans (HBO.out.mono HB6.out.size), _, _, _, H0.take k ++ [⟨f6, .slice A6 q6 c6⟩] ++ H0.drop k, rfl, FldsAt.of_own (base := w6.heap.size) (by first | exact HOO.out | (simp only [fldsOf_append]; exact HOO.out)) (by first | (simp only [List.length_append, List.length_take, List.length_drop, List.length_singleton, HHH.out]; omega) | skip) (fun x hx => ((HSEE.out x ((mem_tx HME2.out) hx)).below HBO.out)), by omega, fun x hx => H32.out x ((mem_tx HME2.out) hx)⟩
        · go_simp
          refine hK.out _ _ (by exact rangeAt_belowG (w := w6) hks (by first | exact HBv1w.out | exact below_al HBv1w.out _ | exact hb1x)) (fun hHeld => ?_)
          clear hK K
          conv => arg 8; simp only [Act.put, List.setIfInBounds_toArray, List.set_cons_zero, List.set_cons_succ]
          generalize hW : World.alloc _ _ = v6w at hHeld ⊢
          have hbx : Below v1w.heap.size v1w v6w := by rw [← hW]; exact (Below.refl _ _).alloc (Nat.le_refl _) _
          have hxx : Blk v6w v1w.heap.size 50 #[.int .i64 f6.num, .int .i64 f6.kind, .int .u64 (f6.val : Int), .slice A6 q6 c6] := by rw [← hW]; exact heap_alloc_new _ _
          have HXv6w := Lib.hid hxx
          clear hxx
          have HNv6w : Hid (∀ g, Value.ownBlock (.slice (some ⟨wd.heap.size, 0, none⟩) 0 0) = some g → g ≠ v1w.heap.size) := fun g e => Nat.ne_of_lt (HOv1w.out.lt g e).2
          have HOv6w := Lib.hid (owns_below HOv1w.out hbx)
          have HBv6w := Lib.hid (HBv1w.out.trans (hbx.mono HBv1w.out.size))
          clear hbx hW
          refine wpAnyH_ready (rs := [4]) (by kernel_rfl) (by simp) ?_
          refine (AllReadyH.cons (o := ⟨some 81, _, _, _, _, _⟩) rfl (fun K hK => ?_) AllReadyH.nil)
          refine step_append_any _ (by rfl) (.tmp 77) (.tmp 80) _ (by rfl) w6.heap.size 50 i0 _ 4 48 Try.underlying46 HI0.out HZ0.out hz1 hz2 rfl (by omega) (.slice (some ⟨wd.heap.size, 0, none⟩) 0 0) (0) ([]) (by rfl) HOv6w.out _ Ax (k) cx (fldsOf (H0.take k)) (by rfl) (HRX.out _ HBv6w.out) (HOX.out) (by unfold maxLen; omega) (by omega) HBv6w.out.size ?_
          intro v3 v7w ho hg hat
          rw [Nat.zero_add, List.nil_append] at ho
          obtain ⟨Av7w, cv7w, rfl⟩ := own_form ho
          have hb1x : Below w6.heap.size w6 v7w := HBv6w.out.grown hg HBv6w.out.size (fun g e => (HOv6w.out.lt g e).1)
          have HOv7w := Lib.hid ho
          have HXv7w := Lib.hid (HXv6w.out.grown hg (fun e => HNv6w.out _ e.symm rfl))
          have HNv7w : Hid (∀ g, Value.ownBlock (.slice Av7w (k) cv7w) = some g → g ≠ v1w.heap.size) := fun g e => by
            rcases hat with h | h
            · exact HNv6w.out g (h.symm.trans e)
            · have h1 := HXv6w.out.lt; rw [e] at h; injection h with h; omega
          have HBv7w := Lib.hid hb1x
          clear ho hg hat hb1x
          refine hK.out _ _ (by exact rangeAt_belowG (w := w6) hks (by first | exact HBv7w.out | exact below_al HBv7w.out _ | exact hb1x)) (fun hHeld => ?_)
          clear hK K
          conv => arg 8; simp only [Act.put, List.setIfInBounds_toArray, List.set_cons_zero, List.set_cons_succ]
          refine wpAnyH_ready (rs := [10]) (by kernel_rfl) (by simp) ?_
          refine (AllReadyH.cons (o := ⟨some 87, _, _, _, _, _⟩) rfl (fun K hK => ?_) AllReadyH.nil)
          refine step_append_any _ (by rfl) (.tmp 81) (.tmp 86) _ (by rfl) w6.heap.size 50 i0 _ 4 48 Try.underlying46 HI0.out HZ0.out hz1 hz2 rfl (by omega) (.slice Av7w (k) cv7w) (k) (fldsOf (H0.take k)) (by rfl) HOv7w.out _ (some ⟨v1w.heap.size, 0, none⟩) (1) 1 (fldsOf [⟨f6, .slice A6 q6 c6⟩]) (by rfl) (reads_fld (x := ⟨f6, .slice A6 q6 c6⟩) HXv7w.out) (HOK.out) (by unfold maxLen; omega) (by omega) HBv7w.out.size ?_
          intro v3 v8w ho hg hat
          skip
          obtain ⟨Av8w, cv8w, rfl⟩ := own_form ho
          have hb1x : Below w6.heap.size w6 v8w := HBv7w.out.grown hg HBv7w.out.size (fun g e => (HOv7w.out.lt g e).1)
          have HOv8w := Lib.hid ho
          have HBv8w := Lib.hid hb1x
          clear ho hg hat hb1x
          refine hK.out _ _ (by exact rangeAt_belowG (w := w6) hks (by first | exact HBv8w.out | exact below_al HBv8w.out _ | exact hb1x)) (fun hHeld => ?_)
          clear hK K
          conv => arg 8; simp only [Act.put, List.setIfInBounds_toArray, List.set_cons_zero, List.set_cons_succ]
          refine wpAnyH_ready (rs := [14]) (by kernel_rfl) (by simp) ?_
          refine (AllReadyH.cons (o := ⟨some 91, _, _, _, _, _⟩) rfl (fun K hK => ?_) AllReadyH.nil)
          refine step_append_any _ (by rfl) (.tmp 87) (.tmp 90) _ (by rfl) w6.heap.size 50 i0 _ 4 48 Try.underlying46 HI0.out HZ0.out hz1 hz2 rfl (by omega) (.slice Av8w (k + 1) cv8w) (k + 1) (fldsOf (H0.take k) ++ fldsOf [⟨f6, .slice A6 q6 c6⟩]) (by rfl) HOv8w.out _ Ay (ny) cy (fldsOf (H0.drop k)) (by rfl) (HRY.out _ HBv8w.out) (HOY.out) (by unfold maxLen; omega) (by omega) HBv8w.out.size ?_
          intro v3 v9w ho hg hat
          skip
          obtain ⟨Av9w, cv9w, rfl⟩ := own_form ho
          have hb1x : Below w6.heap.size w6 v9w := HBv8w.out.grown hg HBv8w.out.size (fun g e => (HOv8w.out.lt g e).1)
          have HOv9w := Lib.hid ho
          have HBv9w := Lib.hid hb1x
          clear ho hg hat hb1x
          refine hK.out _ _ (by exact rangeAt_belowG (w := w6) hks (by first | exact HBv9w.out | exact below_al HBv9w.out _ | exact hb1x)) (fun hHeld => ?_)
          clear hK K
          conv => arg 8; simp only [Act.put, List.setIfInBounds_toArray, List.set_cons_zero, List.set_cons_succ]
          refine wpAnyH_take (i := 15) (oi := ⟨some 13, _, _, _, _, _⟩) (v := ?_) rfl (by kernel_rfl) (by kernel_rfl) (by kernel_rfl) (fun _ _ _ h => h) (Or.inl ⟨by kernel_rfl, ?_⟩) hHeld ?_
          rotate_left
          · intro w hSw
            (try dsimp only at hSw)
            go_simp
            all_goals (with_reducible rfl)
          conv => arg 8; simp only [Act.put, List.setIfInBounds_toArray, List.set_cons_zero, List.set_cons_succ]
          refine wpAnyH_done (by kernel_rfl) ?_ _
          refine NoPanic.normal ?_
          have HOO := HOv9w
          have HBO := HBv9w
          clear hHeld
          go_wp2_with fail
          go_meet
          refine ⟨HB6.out.trans (HBO.out.mono HB6.out.size), _, _, _, H0.take k ++ [⟨f6, .slice A6 q6 c6⟩] ++ H0.drop k, rfl, FldsAt.of_own (base := w6.heap.size) (by first | exact HOO.out | (simp only [fldsOf_append]; exact HOO.out)) (by first | (simp only [List.length_append, List.length_take, List.length_drop, List.length_singleton, HHH.out]; omega) | skip) (fun x hx => ((HSEE.out x ((mem_tx HME2.out) hx)).below HBO.out)), by omega, fun x hx => H32.out x ((mem_tx HME2.out) hx)⟩
      · go_simp
        refine hK.out _ _ (by exact rangeAt_belowG (w := w6) hks (by first | exact HBD.out | exact below_al HBD.out _ | exact hb1x)) (fun hHeld => ?_)
        clear hK K
        conv => arg 8; simp only [Act.put, List.setIfInBounds_toArray, List.set_cons_zero, List.set_cons_succ]
        generalize hW : World.alloc _ _ = v10w at hHeld ⊢
        have hbx : Below wd.heap.size wd v10w := by rw [← hW]; exact (Below.refl _ _).alloc (Nat.le_refl _) _
        have hxx : Blk v10w wd.heap.size 50 #[.int .i64 f6.num, .int .i64 f6.kind, .int .u64 (f6.val : Int), .slice A6 q6 c6] := by rw [← hW]; exact heap_alloc_new _ _
        have HXv10w := Lib.hid hxx
        clear hxx
        have HBv10w := Lib.hid (HBD.out.trans (hbx.mono HBD.out.size))
        clear hbx hW
        refine wpAnyH_ready (rs := [0]) (by kernel_rfl) (by simp) ?_
        refine (AllReadyH.cons (o := ⟨some 77, _, _, _, _, _⟩) rfl (fun K hK => ?_) AllReadyH.nil)
        go_simp
        refine hK.out _ _ (by exact rangeAt_belowG (w := w6) hks (by first | exact HBv10w.out | exact below_al HBv10w.out _ | exact hb1x)) (fun hHeld => ?_)
        clear hK K
        conv => arg 8; simp only [Act.put, List.setIfInBounds_toArray, List.set_cons_zero, List.set_cons_succ]
        generalize hW : World.alloc _ _ = v11w at hHeld ⊢
        have hbx : Below v10w.heap.size v10w v11w := by rw [← hW]; exact (Below.refl _ _).alloc (Nat.le_refl _) _
        have hox : v11w.ownsRow w6.heap.size 50 4 (.slice (some ⟨v10w.heap.size, 0, none⟩) 0 0) 0 [] := by rw [← hW]; exact owns_base2 (empty_ownF _) HBv10w.out.size
        have HOv11w := Lib.hid hox
        clear hox
        have HNv11w : Hid (∀ g, Value.ownBlock (.slice (some ⟨v10w.heap.size, 0, none⟩) 0 0) = some g → g ≠ wd.heap.size) := fun g e => by have h1 := HXv10w.out.lt; injection e with e; have e : v10w.heap.size = g := e; omega
        have HXv11w := Lib.hid (HXv10w.out.below hbx HXv10w.out.lt)
        have HBv11w := Lib.hid (HBv10w.out.trans (hbx.mono HBv10w.out.size))
        clear hbx hW
        refine wpAnyH_ready (rs := [4]) (by kernel_rfl) (by simp) ?_
        refine (AllReadyH.cons (o := ⟨some 81, _, _, _, _, _⟩) rfl (fun K hK => ?_) AllReadyH.nil)
        refine step_append_any _ (by rfl) (.tmp 77) (.tmp 80) _ (by rfl) w6.heap.size 50 i0 _ 4 48 Try.underlying46 HI0.out HZ0.out hz1 hz2 rfl (by omega) (.slice (some ⟨v10w.heap.size, 0, none⟩) 0 0) (0) ([]) (by rfl) HOv11w.out _ Ax (k) cx (fldsOf (H0.take k)) (by rfl) (HRX.out _ HBv11w.out) (HOX.out) (by unfold maxLen; omega) (by omega) HBv11w.out.size ?_
        intro v3 v12w ho hg hat
        rw [Nat.zero_add, List.nil_append] at ho
        obtain ⟨Av12w, cv12w, rfl⟩ := own_form ho
        have hb1x : Below w6.heap.size w6 v12w := HBv11w.out.grown hg HBv11w.out.size (fun g e => (HOv11w.out.lt g e).1)
        have HOv12w := Lib.hid ho
        have HXv12w := Lib.hid (HXv11w.out.grown hg (fun e => HNv11w.out _ e.symm rfl))
        have HNv12w : Hid (∀ g, Value.ownBlock (.slice Av12w (k) cv12w) = some g → g ≠ wd.heap.size) := fun g e => by
          rcases hat with h | h
          · exact HNv11w.out g (h.symm.trans e)
          · have h1 := HXv11w.out.lt; rw [e] at h; injection h with h; omega
        have HBv12w := Lib.hid hb1x
        clear ho hg hat hb1x
        refine hK.out _ _ (by exact rangeAt_belowG (w := w6) hks (by first | exact HBv12w.out | exact below_al HBv12w.out _ | exact hb1x)) (fun hHeld => ?_)
        clear hK K
        conv => arg 8; simp only [Act.put, List.setIfInBounds_toArray, List.set_cons_zero, List.set_cons_succ]
        refine wpAnyH_ready (rs := [10]) (by kernel_rfl) (by simp) ?_
        refine (AllReadyH.cons (o := ⟨some 87, _, _, _, _, _⟩) rfl (fun K hK => ?_) AllReadyH.nil)
        refine step_append_any _ (by rfl) (.tmp 81) (.tmp 86) _ (by rfl) w6.heap.size 50 i0 _ 4 48 Try.underlying46 HI0.out HZ0.out hz1 hz2 rfl (by omega) (.slice Av12w (k) cv12w) (k) (fldsOf (H0.take k)) (by rfl) HOv12w.out _ (some ⟨wd.heap.size, 0, none⟩) (1) 1 (fldsOf [⟨f6, .slice A6 q6 c6⟩]) (by rfl) (reads_fld (x := ⟨f6, .slice A6 q6 c6⟩) HXv12w.out) (HOK.out) (by unfold maxLen; omega) (by omega) HBv12w.out.size ?_
        intro v3 v13w ho hg hat
        skip
        obtain ⟨Av13w, cv13w, rfl⟩ := own_form ho
        have hb1x : Below w6.heap.size w6 v13w := HBv12w.out.grown hg HBv12w.out.size (fun g e => (HOv12w.out.lt g e).1)
        have HOv13w := Lib.hid ho
        have HBv13w := Lib.hid hb1x
        clear ho hg hat hb1x
        refine hK.out _ _ (by exact rangeAt_belowG (w := w6) hks (by first | exact HBv13w.out | exact below_al HBv13w.out _ | exact hb1x)) (fun hHeld => ?_)
        clear hK K
        conv => arg 8; simp only [Act.put, List.setIfInBounds_toArray, List.set_cons_zero, List.set_cons_succ]
        refine wpAnyH_ready (rs := [14]) (by kernel_rfl) (by simp) ?_
        refine (AllReadyH.cons (o := ⟨some 91, _, _, _, _, _⟩) rfl (fun K hK => ?_) AllReadyH.nil)
        refine step_append_any _ (by rfl) (.tmp 87) (.tmp 90) _ (by rfl) w6.heap.size 50 i0 _ 4 48 Try.underlying46 HI0.out HZ0.out hz1 hz2 rfl (by omega) (.slice Av13w (k + 1) cv13w) (k + 1) (fldsOf (H0.take k) ++ fldsOf [⟨f6, .slice A6 q6 c6⟩]) (by rfl) HOv13w.out _ Ay (ny) cy (fldsOf (H0.drop k)) (by rfl) (HRY.out _ HBv13w.out) (HOY.out) (by unfold maxLen; omega) (by omega) HBv13w.out.size ?_
        intro v3 v14w ho hg hat
        skip
        obtain ⟨Av14w, cv14w, rfl⟩ := own_form ho
        have hb1x : Below w6.heap.size w6 v14w := HBv13w.out.grown hg HBv13w.out.size (fun g e => (HOv13w.out.lt g e).1)
        have HOv14w := Lib.hid ho
        have HBv14w := Lib.hid hb1x
        clear ho hg hat hb1x
        refine hK.out _ _ (by exact rangeAt_belowG (w := w6) hks (by first | exact HBv14w.out | exact below_al HBv14w.out _ | exact hb1x)) (fun hHeld => ?_)
        clear hK K
        conv => arg 8; simp only [Act.put, List.setIfInBounds_toArray, List.set_cons_zero, List.set_cons_succ]
        refine wpAnyH_take (i := 15) (oi := ⟨some 13, _, _, _, _, _⟩) (v := ?_) rfl (by kernel_rfl) (by kernel_rfl) (by kernel_rfl) (fun _ _ _ h => h) (Or.inl ⟨by kernel_rfl, ?_⟩) hHeld ?_
        rotate_left
        · intro w hSw
          (try dsimp only at hSw)
          go_simp
          all_goals (with_reducible rfl)
        conv => arg 8; simp only [Act.put, List.setIfInBounds_toArray, List.set_cons_zero, List.set_cons_succ]
        refine wpAnyH_done (by kernel_rfl) ?_ _
        refine NoPanic.normal ?_
        have HOO := HOv14w
        have HBO := HBv14w
        clear hHeld
        go_wp2_with fail
        go_meet
        refine ⟨HB6.out.trans (HBO.out.mono HB6.out.size), _, _, _, H0.take k ++ [⟨f6, .slice A6 q6 c6⟩] ++ H0.drop k, rfl, FldsAt.of_own (base := w6.heap.size) (by first | exact HOO.out | (simp only [fldsOf_append]; exact HOO.out)) (by first | (simp only [List.length_append, List.length_take, List.length_drop, List.length_singleton, HHH.out]; omega) | skip) (fun x hx => ((HSEE.out x ((mem_tx HME2.out) hx)).below HBO.out)), by omega, fun x hx => H32.out x ((mem_tx HME2.out) hx)⟩
    · subst h0
      obtain ⟨q6, hq6⟩ : ∃ q, f6.bytes.length = q := ⟨_, rfl⟩
      have HQ6 := Lib.hid hq6
      rw [hq6] at e3
      have hrow : w6.ownsRow w5.heap.size 50 4 (.slice (some ⟨gh, 0, none⟩) 7 ch) 7 (fldsOf H0) := by have h := HOH.out.row; unfold OwnF at h; rw [HHH.out] at h; exact h
      have hgh : w5.heap.size ≤ gh := (hrow.lt gh rfl).1
      have y0 := hrow.frozenAt (k * 4)
      have y1 := hrow.frozenAt (k * 4 + 1)
      have y2 := hrow.frozenAt (k * 4 + 2)
      have y3 := hrow.frozenAt (k * 4 + 3)
      have HGH := Lib.hid hgh
      have HRC := Lib.hid hrc
      have HE : Hid (w6.cell? ⟨gh, k * 4, none⟩ = some (.int .i64 f6.num) ∧ w6.cell? ⟨gh, k * 4 + 1, none⟩ = some (.int .i64 f6.kind) ∧ w6.cell? ⟨gh, k * 4 + 2, none⟩ = some (.int .u64 (f6.val : Int)) ∧ w6.cell? ⟨gh, k * 4 + 3, none⟩ = some (.slice A6 q6 c6)) := Lib.hid ⟨e0, e1, e2, e3⟩
      have HSQ : Hid (SeeB w6 (.slice A6 q6 c6) f6.bytes) := Lib.hid (by have := HS6.out; rw [hq6] at this; exact this)
      have HOQ : Hid (OwnB w6 w5.heap.size (.slice A6 q6 c6) f6.bytes) := Lib.hid (by have := HOH.out.byt _ HMEM.out; rw [hq6] at this; exact this)
      have HON : Hid (∀ w', Only (fun q => q = gh) w6 w' → SeeB w' (.slice A6 q6 c6) f6.bytes) := Lib.hid (fun w' ho => by
        have hob : w6.ownsRow w5.heap.size 5 1 (.slice A6 q6 c6) f6.bytes.length (bytesL f6.bytes) := HOQ.out
        exact OwnB.see (show OwnB w' w5.heap.size _ f6.bytes from owns_only hob ho (fun q hq e => owns_neF hob hrow (by decide) hq (by subst e; rfl))))
      clear hq6 hrow hgh hrc
      obtain ⟨hnum, ⟨hk3, hkd, hbe⟩ | ⟨hk3, hkd, hbl⟩⟩ := HAT.out
      · have hm := H32.out _ HMEM.out
        have HM9 := Lib.hid hm
        have HNU := Lib.hid hnum
        have HKD := Lib.hid hkd
        have HBE := Lib.hid hbe
        have tk : (f6.kind == 2) = false := by rw [hkd]; rfl
        clear hm hnum hkd hbe hk3
        go_wp2_with fail
        go_meet
        obtain ⟨x0, x1, x2, x3⟩ := HE.out
        refine ⟨HB6.out.setCell (p := ⟨gh, k * 4 + 2, none⟩) HGH.out _, _, _, _, H0.set k ⟨⟨f6.num, f6.kind, qn, f6.bytes⟩, .slice A6 q6 c6⟩, rfl, FldsAt.put HOH.out HHH.out hk7 _ (HON.out _ (only_put _ _ _ _)) (only_put _ _ _ _) (fun i u hu => cells_put x0 x1 x2 x3 (j := 2) (by omega) _ i u hu) (cells_off (k := k) (j := 2) (by omega) _), by omega, fun x hx => ?_⟩
        rcases List.mem_or_eq_of_mem_set hx with hx | rfl
        · exact H32.out x hx
        · exact ⟨HM9.out.1, HQN.out⟩
      · have hm := H32.out _ HMEM.out
        have HM9 := Lib.hid hm
        have HNU := Lib.hid hnum
        have HKD := Lib.hid hkd
        have HBL := Lib.hid hbl
        have tk : (f6.kind == 2) = true := by rw [hkd]; rfl
        obtain ⟨v31, hs31, hr31, hr32⟩ := HSQ.out.upto_ (k := 31) (by omega) .i64
        have hr33 : ∀ W, (Instr.slice 33 (.slice A6 q6 c6) none (some (.int .i64 31)) none).run Try.prog W = .ok v31 W := hr31
        have HS31 : Hid (∀ w', Only (fun q => q = gh) w6 w' → SeeB w' v31 (f6.bytes.take 31)) := Lib.hid (fun w' ho => by
          obtain ⟨v32, hs32, hq31, _⟩ := (HON.out w' ho).upto_ (k := 31) (by omega) .i64
          have e := (hr31 w6).symm.trans (hq31 w6)
          injection e with e
          rw [e]
          exact hs32)
        obtain ⟨A31, c31, e31, _⟩ := hs31
        obtain ⟨n31, hn31⟩ : ∃ n, (f6.bytes.take 31).length = n := ⟨_, rfl⟩
        rw [hn31] at e31
        subst e31
        clear hm hnum hkd hbl hk3 hr31 hr32 hn31
        go_wp2_with fail
        go_meet
        obtain ⟨x0, x1, x2, x3⟩ := HE.out
        refine ⟨HB6.out.setCell (p := ⟨gh, k * 4 + 3, none⟩) HGH.out _, _, _, _, H0.set k ⟨⟨f6.num, f6.kind, f6.val, f6.bytes.take 31⟩, .slice A31 n31 c31⟩, rfl, FldsAt.put HOH.out HHH.out hk7 _ (HS31.out _ (only_put _ _ _ _)) (only_put _ _ _ _) (fun i u hu => cells_put x0 x1 x2 x3 (j := 3) (by omega) _ i u hu) (cells_off (k := k) (j := 3) (by omega) _), by omega, fun x hx => ?_⟩
        rcases List.mem_or_eq_of_mem_set hx with hx | rfl
        · exact H32.out x hx
        · exact ⟨by show (f6.bytes.take 31).length ≤ 32; rw [List.length_take]; omega, HM9.out.2⟩
    · subst h0
      obtain ⟨q6, hq6⟩ : ∃ q, f6.bytes.length = q := ⟨_, rfl⟩
      have HQ6 := Lib.hid hq6
      rw [hq6] at e3
      have hrow : w6.ownsRow w5.heap.size 50 4 (.slice (some ⟨gh, 0, none⟩) 7 ch) 7 (fldsOf H0) := by have h := HOH.out.row; unfold OwnF at h; rw [HHH.out] at h; exact h
      have hgh : w5.heap.size ≤ gh := (hrow.lt gh rfl).1
      have y0 := hrow.frozenAt (k * 4)
      have y1 := hrow.frozenAt (k * 4 + 1)
      have y2 := hrow.frozenAt (k * 4 + 2)
      have y3 := hrow.frozenAt (k * 4 + 3)
      have HGH := Lib.hid hgh
      have HRC := Lib.hid hrc
      have HE : Hid (w6.cell? ⟨gh, k * 4, none⟩ = some (.int .i64 f6.num) ∧ w6.cell? ⟨gh, k * 4 + 1, none⟩ = some (.int .i64 f6.kind) ∧ w6.cell? ⟨gh, k * 4 + 2, none⟩ = some (.int .u64 (f6.val : Int)) ∧ w6.cell? ⟨gh, k * 4 + 3, none⟩ = some (.slice A6 q6 c6)) := Lib.hid ⟨e0, e1, e2, e3⟩
      have HSQ : Hid (SeeB w6 (.slice A6 q6 c6) f6.bytes) := Lib.hid (by have := HS6.out; rw [hq6] at this; exact this)
      have HOQ : Hid (OwnB w6 w5.heap.size (.slice A6 q6 c6) f6.bytes) := Lib.hid (by have := HOH.out.byt _ HMEM.out; rw [hq6] at this; exact this)
      have HON : Hid (∀ w', Only (fun q => q = gh) w6 w' → SeeB w' (.slice A6 q6 c6) f6.bytes) := Lib.hid (fun w' ho => by
        have hob : w6.ownsRow w5.heap.size 5 1 (.slice A6 q6 c6) f6.bytes.length (bytesL f6.bytes) := HOQ.out
        exact OwnB.see (show OwnB w' w5.heap.size _ f6.bytes from owns_only hob ho (fun q hq e => owns_neF hob hrow (by decide) hq (by subst e; rfl))))
      clear hq6 hrow hgh hrc
      have hnum := HAT.out.1
      have gn : IntKind.i64.wrap (f6.num + 1) = f6.num + 1 := IntWalk.i64_in _ (by omega)
      have hm := H32.out _ HMEM.out
      have HM9 := Lib.hid hm
      clear hnum hm
      go_wp2_with fail
      go_meet
      obtain ⟨x0, x1, x2, x3⟩ := HE.out
      refine ⟨HB6.out.setCell (p := ⟨gh, k * 4 + 0, none⟩) HGH.out _, _, _, _, H0.set k ⟨⟨f6.num + 1, f6.kind, f6.val, f6.bytes⟩, .slice A6 q6 c6⟩, rfl, FldsAt.put HOH.out HHH.out hk7 _ (HON.out _ (only_put _ _ _ _)) (only_put _ _ _ _) (fun i u hu => cells_put x0 x1 x2 x3 (j := 0) (by omega) _ i u hu) (cells_off (k := k) (j := 0) (by omega) _), by omega, fun x hx => ?_⟩
      rcases List.mem_or_eq_of_mem_set hx with hx | rfl
      · exact H32.out x hx
      · exact ⟨HM9.out.1, HM9.out.2⟩
    · subst h0
      obtain ⟨q6, hq6⟩ : ∃ q, f6.bytes.length = q := ⟨_, rfl⟩
      have HQ6 := Lib.hid hq6
      rw [hq6] at e3
      have hrow : w6.ownsRow w5.heap.size 50 4 (.slice (some ⟨gh, 0, none⟩) 7 ch) 7 (fldsOf H0) := by have h := HOH.out.row; unfold OwnF at h; rw [HHH.out] at h; exact h
      have hgh : w5.heap.size ≤ gh := (hrow.lt gh rfl).1
      have y0 := hrow.frozenAt (k * 4)
      have y1 := hrow.frozenAt (k * 4 + 1)
      have y2 := hrow.frozenAt (k * 4 + 2)
      have y3 := hrow.frozenAt (k * 4 + 3)
      have HGH := Lib.hid hgh
      have HRC := Lib.hid hrc
      have HE : Hid (w6.cell? ⟨gh, k * 4, none⟩ = some (.int .i64 f6.num) ∧ w6.cell? ⟨gh, k * 4 + 1, none⟩ = some (.int .i64 f6.kind) ∧ w6.cell? ⟨gh, k * 4 + 2, none⟩ = some (.int .u64 (f6.val : Int)) ∧ w6.cell? ⟨gh, k * 4 + 3, none⟩ = some (.slice A6 q6 c6)) := Lib.hid ⟨e0, e1, e2, e3⟩
      have HSQ : Hid (SeeB w6 (.slice A6 q6 c6) f6.bytes) := Lib.hid (by have := HS6.out; rw [hq6] at this; exact this)
      have HOQ : Hid (OwnB w6 w5.heap.size (.slice A6 q6 c6) f6.bytes) := Lib.hid (by have := HOH.out.byt _ HMEM.out; rw [hq6] at this; exact this)
      have HON : Hid (∀ w', Only (fun q => q = gh) w6 w' → SeeB w' (.slice A6 q6 c6) f6.bytes) := Lib.hid (fun w' ho => by
        have hob : w6.ownsRow w5.heap.size 5 1 (.slice A6 q6 c6) f6.bytes.length (bytesL f6.bytes) := HOQ.out
        exact OwnB.see (show OwnB w' w5.heap.size _ f6.bytes from owns_only hob ho (fun q hq e => owns_neF hob hrow (by decide) hq (by subst e; rfl))))
      clear hq6 hrow hgh hrc
      have hkd : f6.kind = 0 ∨ f6.kind = 2 := by have := HAT.out; omega
      have hg1 : IntKind.i64.wrap ((k : Int) + 1) = (k : Int) + 1 := IntWalk.i64_in _ (by omega)
      have gn : IntKind.i64.wrap (2 - f6.kind) = 2 - f6.kind := IntWalk.i64_in _ (by omega)
      have HM9 := Lib.hid hkd
      clear hkd
      have HTH : Hid (w6.there gh (k * 4) 4) := Lib.hid (owns_there (by have h := HOH.out.row; unfold OwnF at h; rw [HHH.out] at h; exact h) k hk7)
      go_wp2_with fail
      generalize hWX : World.setCell (World.setCell (World.setCell (World.setCell _ _ _) _ _) _ _) _ _ = wx
      have hWY : w6.setCells gh (k * 4) [.int .i64 ((k : Int) + 1), .int .i64 (2 - f6.kind), .int .u64 ((0 : Nat) : Int), .slice none 0 0] = wx := hWX
      have hrg := World.rangeAt_setCells_same w6 gh (k * 4) [.int .i64 ((k : Int) + 1), .int .i64 (2 - f6.kind), .int .u64 ((0 : Nat) : Int), .slice none 0 0] HTH.out
      have hon := setCells_only (fun q => q = gh) w6 gh (k * 4) [.int .i64 ((k : Int) + 1), .int .i64 (2 - f6.kind), .int .u64 ((0 : Nat) : Int), .slice none 0 0] (.inl rfl)
      have hoff : ∀ i, i < k * 4 ∨ k * 4 + 4 ≤ i → (w6.setCells gh (k * 4) [.int .i64 ((k : Int) + 1), .int .i64 (2 - f6.kind), .int .u64 ((0 : Nat) : Int), .slice none 0 0]).cell? ⟨gh, i, none⟩ = w6.cell? ⟨gh, i, none⟩ := fun i hi => World.cell?_setCells_out gh _ _ _ _ (fun _ _ => hi)
      rw [hWY] at hrg hon hoff
      clear hWX hWY
      go_meet
      refine ⟨Only.below_trans HB6.out hon HB6.out.size (fun q hq => by rw [hq]; exact HGH.out), _, _, _, H0.set k ⟨⟨(k : Int) + 1, 2 - f6.kind, 0, []⟩, .slice none 0 0⟩, rfl, FldsAt.put HOH.out HHH.out hk7 _ (SeeB.nil _) hon (fun i u hu => hrg i u hu) hoff, by omega, fun x hx => ?_⟩
      rcases List.mem_or_eq_of_mem_set hx with hx | rfl
      · exact H32.out x hx
      · exact ⟨Nat.zero_le _, by show 0 < 2 ^ 64; decide⟩
  case rest =>
  obtain ⟨hbc, A, m, c, its, hu13, hfa, hm8, hix⟩ := hcut
  subst hu13
  have HBC := Lib.hid hbc
  have hsumH : fieldsSum (its.map FItem.f) ≤ 416 := by
    have h1 := fieldsSum_32 (its.map FItem.f) (fun g hg => by obtain ⟨x, hx, rfl⟩ := List.mem_map.1 hg; exact (hix x hx).1)
    rw [List.length_map, hfa.1] at h1
    omega
  obtain ⟨M, hM⟩ : ∃ M, msgR (its.map FItem.f) = M := ⟨_, rfl⟩
  have hMl : M.length ≤ 416 := by
    rw [← hM]
    refine Nat.le_trans (msgR_le _ (fun g hg => ?_)) hsumH
    obtain ⟨x, hx, rfl⟩ := List.mem_map.1 hg
    have := hix x hx
    exact ⟨this.2, by omega⟩
  have HMS := message_any wc A m c its hfa (by omega) (fun x hx => (hix x hx).2)
  rw [hM] at HMS
  have HMS := Lib.hid HMS
  have HML2 := Lib.hid hMl
  clear hbc hfa hm8 hix hsumH hM hMl g1 g3 g4 g5 hki
  go_wp2_with fail
  refine (HMS.out).mono ?_
  rintro e w7 ⟨vM, rfl, hb7, ho7⟩
  obtain ⟨AM, cM, hvM⟩ := own_form (show w7.ownsRow wc.heap.size 5 1 vM _ _ from ho7)
  obtain ⟨nM, hnM⟩ : ∃ n, M.length = n := ⟨_, rfl⟩
  rw [hnM] at hvM
  subst hvM
  have HB7 := Lib.hid (HBC.out.trans (hb7.mono HBC.out.size))
  have hol7 : OwnFs w7 w4.heap.size (.slice (some ⟨gl, 0, none⟩) T cl) L0 := HOL.out.below HB7.out
  have hrow : w7.ownsRow w4.heap.size 50 4 (.slice (some ⟨gl, 0, none⟩) T cl) T (fldsOf L0) := by have h := hol7.row; unfold OwnF at h; rw [HTT.out] at h; exact h
  have hgl : w4.heap.size ≤ gl ∧ gl < w5.heap.size := by
    have h : w5.ownsRow w4.heap.size 50 4 (.slice (some ⟨gl, 0, none⟩) T cl) L0.length (fldsOf L0) := HOL.out.row
    exact h.lt gl rfl
  have y3 := hrow.frozenAt 3
  obtain ⟨g2, c2, hlv2, f2, Af2, cf2, hf2, hsf2, d0, d1, d2, d3⟩ := hol7.at_ (k := 0) (by rw [HTT.out]; omega)
  have hgg : g2 = gl := by injection hlv2 with h1; injection h1 with h1; injection h1 with h1; exact h1.symm
  have hff : f2 = f ∧ Af2 = Af ∧ cf2 = cf := by
    have h := HF0.out.symm.trans hf2
    injection h with h
    injection h with h1 h2
    subst h1
    injection h2 with h2 h3 h4
    exact ⟨rfl, h2.symm, h4.symm⟩
  subst hgg
  obtain ⟨rfl, rfl, rfl⟩ := hff
  simp only [Nat.zero_mul, Nat.zero_add] at d0 d1 d2 d3
  have HD : Hid (w7.cell? ⟨g2, 0, none⟩ = some (.int .i64 f2.num) ∧ w7.cell? ⟨g2, 1, none⟩ = some (.int .i64 f2.kind) ∧ w7.cell? ⟨g2, 2, none⟩ = some (.int .u64 (f2.val : Int)) ∧ w7.cell? ⟨g2, 3, none⟩ = some (.slice Af2 f2.bytes.length cf2)) := Lib.hid ⟨d0, d1, d2, d3⟩
  have HOL7 := Lib.hid hol7
  have HO7 := Lib.hid ho7
  have HGL := Lib.hid hgl
  have HWC := Lib.hid (HBC.out.size)
  have HB7c := Lib.hid hb7
  have HNM := Lib.hid hnM
  clear hb7 ho7 hol7 hrow hgl hlv2 hf2 hsf2 HF0 hnM HMS
  go_upto_region 20 with (fail)
  generalize hWX : World.setCell _ _ _ = w8
  have hWY : w7.setCell ⟨g2, 0 * 4 + 3, none⟩ (.slice AM nM cM) = w8 := hWX
  clear hWX d0 d1 d2 d3 y3
  have hon : Only (fun q => q = g2) w7 w8 := by rw [← hWY]; exact only_put _ _ _ _
  have hsM : SeeB w8 (.slice AM nM cM) M := by
    have hob : w7.ownsRow wc.heap.size 5 1 (.slice AM nM cM) M.length (bytesL M) := HO7.out
    exact OwnB.see (show OwnB w8 wc.heap.size _ M from owns_only hob hon (fun q hq e => by
      have h1 := (hob.lt q hq).1
      have h2 := HGL.out
      have h3 := HWC.out
      omega))
  have hfx : FldsAt w8 (some ⟨g2, 0, none⟩) T cl (L0.set 0 ⟨⟨f2.num, f2.kind, f2.val, M⟩, .slice AM nM cM⟩) := by
    obtain ⟨x0, x1, x2, x3⟩ := HD.out
    exact FldsAt.put HOL7.out HTT.out (by omega) ⟨⟨f2.num, f2.kind, f2.val, M⟩, .slice AM nM cM⟩ hsM hon (fun i u hu => by rw [← hWY]; exact cells_put (k := 0) x0 x1 x2 x3 (j := 3) (by omega) _ i u hu) (fun i hi => by rw [← hWY]; exact cells_off (k := 0) (j := 3) (by omega) _ i hi)
  obtain ⟨L1, hL1⟩ : ∃ L, L0.set 0 ⟨⟨f2.num, f2.kind, f2.val, M⟩, .slice AM nM cM⟩ = L := ⟨_, rfl⟩
  rw [hL1] at hfx
  have hmap1 : L1.map FItem.f = ⟨f2.num, f2.kind, f2.val, M⟩ :: txs.map (bytF 2) := by
    rw [← hL1, List.map_set, HML.out]
    rfl
  have hok1 : ∀ g ∈ L1.map FItem.f, g.val < 2 ^ 64 ∧ g.bytes.length < 2 ^ 64 := fun g hg => by
    rw [hmap1] at hg
    rcases List.mem_cons.1 hg with rfl | hg
    · refine ⟨?_, by have := HML2.out; show M.length < _; omega⟩
      show f2.val < 2 ^ 64
      rw [HFE.out]
      show 0 < 2 ^ 64
      decide
    · obtain ⟨b, hb, rfl⟩ := List.mem_map.1 hg
      exact ⟨by show 0 < 2 ^ 64; decide, HTL.out.2 b hb⟩
  have hsum1 : fieldsSum (L1.map FItem.f) ≤ 10000 := by
    rw [hmap1, fieldsSum_cons]
    show M.length + 20 + txsSum txs ≤ _
    have := HML2.out
    have := HSUM.out
    omega
  obtain ⟨R, hR⟩ : ∃ R, msgR (L1.map FItem.f) = R := ⟨_, rfl⟩
  have hRl : R.length ≤ 1073741824 := by
    rw [← hR]
    have := msgR_le _ hok1
    omega
  have HMR := message_any w8 (some ⟨g2, 0, none⟩) T cl L1 hfx (by omega) (fun x hx => (hok1 x.f (List.mem_map.2 ⟨x, hx, rfl⟩)).1)
  rw [hR] at HMR
  have HMR := Lib.hid HMR
  have HRL := Lib.hid hRl
  have HB8 : Hid (Below w.heap.size w w8) := Lib.hid (Only.below_trans (HB5.out.trans (HB7.out.mono HB5.out.size)) hon (HB5.out.trans (HB7.out.mono HB5.out.size)).size (fun q hq => by rw [hq]; have h1 := HGL.out; have h2 := HW4.out; omega))
  clear hWY hon hsM hfx hmap1 hok1 hsum1 hR hRl hL1
  go_wp2_with fail
  refine (HMR.out).mono ?_
  rintro e w9 ⟨vR, rfl, hb9, ho9⟩
  have HB9 := Lib.hid (HB8.out.trans (hb9.mono HB8.out.size))
  have HS9 := Lib.hid ho9.see
  have hou := ho9.see.oneCell
  obtain ⟨y1, hy1⟩ : ∃ y, (decB R).1 = y := ⟨_, rfl⟩
  obtain ⟨ts, hts⟩ : ∃ ts, (decB R).2 = ts := ⟨_, rfl⟩
  obtain ⟨de, hde⟩ : ∃ de, decE R = de := ⟨_, rfl⟩
  have HDE := Lib.hid hde
  have HY1 := Lib.hid hy1
  have HTS := Lib.hid hts
  clear hb9 ho9 hy1 hts hde HMR
  go_wp2_with fail
  refine (bdec_see w9 vR R HS9.out HRL.out).mono ?_
  rintro e w10 ⟨hbn, tv3, rfl, htn⟩
  rw [HDE.out, HY1.out]
  rw [HTS.out] at htn
  have qs := bl_sto w10 (blCells y1 tv3) (blCells_len _ _) (blCells_one htn.oneCell)
  have HB10 := Lib.hid (HB9.out.trans (hbn.mono HB9.out.size))
  have HS10 := Lib.hid (HS9.out.below hbn)
  have HU10 := Lib.hid htn
  clear hbn htn HS9
  go_upto_region 22 with (fail)
  generalize hwn : storeMid _ _ _ = w11
  obtain ⟨hbn, hhn⟩ := bl_end (blCells_len _ _) hwn
  obtain ⟨gx, hgx⟩ : ∃ gx, w10.heap.size = gx := ⟨_, rfl⟩
  rw [hgx] at hhn ⊢
  have HB11 := Lib.hid (HB10.out.trans (hbn.mono HB10.out.size))
  have HS11 := Lib.hid (HS10.out.below hbn)
  have HU11 := Lib.hid (HU10.out.below hbn)
  have HX11 : Hid (BlS gx y1 tv3 w11) := Lib.hid (bl_rangeAll hhn)
  clear hwn hbn hhn hgx qs HB10 HS10 HU10
  go_wp2_with fail
  refine (rdec_see w11 vR R HS11.out HRL.out).mono ?_
  rintro e w12 ⟨hbn, tv4, rfl, htn⟩
  rw [HDE.out, HY1.out]
  rw [HTS.out] at htn
  have qs := bl_sto w12 (blCells y1 tv4) (blCells_len _ _) (blCells_one htn.oneCell)
  have HB12 := Lib.hid (HB11.out.trans (hbn.mono HB11.out.size))
  have HU12 := Lib.hid (HU11.out.below hbn)
  have HX12 := Lib.hid (HX11.out.below hbn)
  have HV12 := Lib.hid htn
  clear hbn htn HB11 HS11 HU11 HX11
  go_upto_region 23 with (fail)
  generalize hwn : storeMid _ _ _ = w13
  obtain ⟨hbn, hhn⟩ := bl_end (blCells_len _ _) hwn
  obtain ⟨gy, hgy⟩ : ∃ gy, w12.heap.size = gy := ⟨_, rfl⟩
  rw [hgy] at hhn ⊢
  have HB13 := Lib.hid (HB12.out.trans (hbn.mono HB12.out.size))
  have HU13 := Lib.hid (HU12.out.below hbn)
  have HV13 := Lib.hid (HV12.out.below hbn)
  have HX13 := Lib.hid (HX12.out.below hbn)
  have hr1 : w13.rangeAt gx 0 (blCells y1 tv3) := HX13.out
  have hr2 := bl_rangeAll hhn
  have q1 := aggOk_mk hr1 (blCells_len _ _)
  have q2 := loadN_eq hr1 (blCells_len _ _)
  have q3 := aggOk_mk hr2 (blCells_len _ _)
  have q4 := loadN_eq hr2 (blCells_len _ _)
  have ne1 : (de == de) = true := by simp
  clear hwn hbn hhn hgy qs hr1 hr2 HB12 HU12 HV12 HX12
  go_wp2_with fail
  refine (same_block w13 y1 y1 tv3 tv4 ts rfl HU13.out HV13.out).mono ?_
  rintro e w14 ⟨rfl, hb14⟩
  have HB14 := Lib.hid (HB13.out.trans (hb14.mono HB13.out.size))
  clear hb14 q1 q2 q3 q4 ne1 HB13 HU13 HV13 HX13
  go_wp2_with fail
  refine (known_any w14).mono ?_
  rintro e w15 ⟨rfl, hb15⟩
  have HB15 := Lib.hid (HB14.out.trans (hb15.mono HB14.out.size))
  clear hb15
  go_wp2_with fail
  go_ret
  exact ⟨rfl, HB15.out⟩
end Go.Proofs.Ytnhggaghidbniaa
