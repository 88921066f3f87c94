/- Arguments that are bytes, headers and blocks, of small bulk. -/
import Derived.Test.YtnhggaghidbniaaBytesArg
import Derived.Test.YtnhggaghidbniaaBlkY
namespace Go.Proofs.Ytnhggaghidbniaa
open Go.ChangeShapes Go.WideShapes Go.ChangeAt Go.RowKit Go.WideMaps Go.Deep
set_option linter.unusedVariables false
set_option linter.unusedSimpArgs false
set_option maxRecDepth 100000
open ShaW Sha Wir

def bytesZ (zs : List Int) : List UInt8 := zs.map (fun z => UInt8.ofNat z.toNat)
theorem bytesZ_cells : ∀ zs : List Int, (∀ z ∈ zs, (Lit.int .u8 z).wf = true) → bytesL (bytesZ zs) = zs.map (Value.int .u8)
  | [], _ => rfl
  | z :: l, h => by
    have ih := bytesZ_cells l (fun z hz => h z (List.mem_cons_of_mem _ hz))
    unfold bytesL bytesZ at ih ⊢
    rw [List.map_cons, List.map_cons, List.map_cons, ih, u8_ofInt _ (h z (List.mem_cons_self ..))]
theorem see_row {W : World} {A : Option Addr} {n cap : Nat} {Z : List Int} (h1 : n ≤ cap) (h2 : cap ≤ maxLen) (h3 : Z.length = cap) (h4 : ∀ z ∈ Z, (Lit.int .u8 z).wf = true) (h5 : A = none → cap = 0)
    (h6 : ∀ a, A = some a → ∀ c, c < cap → W.cell? (a.add c) = some (.int .u8 (Z.getD c 0))) : ∃ b : List UInt8, b.length = n ∧ SeeB W (.slice A n cap) b := by
  have hl : (bytesZ (Z.take n)).length = n := by unfold bytesZ; rw [List.length_map, List.length_take]; omega
  refine ⟨bytesZ (Z.take n), hl, A, cap, by rw [hl], by rw [hl]; exact h1, by unfold maxLen at h2; omega, ?_⟩
  rw [hl]
  refine ⟨by rw [bytesL_len, hl, Nat.mul_one], fun hp => ?_⟩
  cases hA : A with
  | none => have := h5 hA; omega
  | some a =>
    have h6 := h6 a hA
    refine ⟨a, rfl, World.block_lt_of_cell? W _ (by simpa [Addr.add] using h6 0 (by omega)), fun j u hu => ?_⟩
    rw [bytesZ_cells _ (fun z hz => h4 z (List.mem_of_mem_take hz))] at hu
    have hj : j < n := by
      have := (List.getElem?_eq_some_iff.1 hu).1
      rw [List.length_map, List.length_take] at this
      omega
    rw [h6 j (by omega), ← hu, List.getElem?_map, List.getElem?_take, if_pos hj]
    have hjl : j < Z.length := by omega
    simp [List.getD_eq_getElem?_getD, hjl]
theorem see_arg {H : Type} {enc : TypeId × Value → H} {W : World} {base : Nat} {v : Value} {d : DataW H} {p : List MemPlace}
    (hok : Value.okWide Try.prog W .any base 33 v) (h : DataW.Trod enc Try.prog W 0 (fun _ => true) true 33 v d p) : ∃ b : List UInt8, SeeB W v b ∧ b.length ≤ Rows.uptoBulk d := by
  obtain ⟨ao, n, cap, rfl⟩ := okWide_slice Try.underlying33 hok
  obtain ⟨fuel, hf⟩ := h
  rcases open_ints Try.underlying33 Try.underlying5 (by kernel_rfl) hf with ⟨hcs, hx⟩ | ⟨a, len', cap', zs, hcs, _, hl, hm, hz, hx, hcell, hwz⟩
  · simp [Value.cells] at hcs
    obtain ⟨rfl, rfl, rfl⟩ := hcs
    exact ⟨[], SeeB.nil W, Nat.zero_le _⟩
  · simp [Value.cells] at hcs
    obtain ⟨rfl, rfl, rfl⟩ := hcs
    simp at hz
    obtain ⟨b, hb, hs⟩ := see_row (W := W) (A := some a) (Z := zs) hl hm hz hwz (fun h => by cases h) (fun a' ha' c hc => by injection ha' with ha'; subst ha'; exact hcell c (by omega))
    refine ⟨b, hs, ?_⟩
    have hd : d = .slice (lits .u8 (zs.take n)) (lits .u8 (zs.drop n)) := by simpa using congrArg Prod.fst hx
    rw [hd]
    have := bulk_len (H := H) (lits .u8 (zs.take n))
    simp only [Rows.uptoBulk]
    have e : (lits (H := H) .u8 (zs.take n)).length = n := by simp [lits]; omega
    omega
theorem rows_cells {H : Type} {enc : TypeId × Value → H} {W : World} {fuel : Nat} {cs : List Value} {x : DataW H × List MemPlace}
    (hf : DataW.trod enc Try.prog W 0 (fun _ => true) true fuel 26 cs = some x) : ∃ tv txs, cs = [tv] ∧ TxsAt W tv txs ∧ txs.length ≤ Rows.uptoBulk x.1 ∧ ∀ b ∈ txs, b.length ≤ Rows.uptoBulk x.1 := by
  rcases open_int_rows Try.underlying26 Try.underlying33 Try.underlying5 (by kernel_rfl) (by kernel_rfl) hf with ⟨hcs, hx⟩ | ⟨a, n, cap, A, L, C, Z, hcs, _, hl, hm, hx, hrow⟩
  · exact ⟨_, [], hcs, TxsAt.nil W, Nat.zero_le _, fun b hb => by simp at hb⟩
  · have hd : x.1 = .slice ((List.range n).map fun r => intRow .u8 (A r) (L r) (Z r)) ((List.range (cap - n)).map fun j => intRow .u8 (A (n + j)) (L (n + j)) (Z (n + j))) := congrArg Prod.fst hx
    have hbk : n ≤ Rows.uptoBulk x.1 := by
      rw [hd]
      have := bulk_len ((List.range n).map fun r => intRow (H := H) .u8 (A r) (L r) (Z r))
      simp only [Rows.uptoBulk]
      rw [List.length_map, List.length_range] at this
      omega
    have hLb : ∀ r, r < n → L r ≤ Rows.uptoBulk x.1 := fun r hr => by
      obtain ⟨h1, h2, h3, h4, h5, h6, h7⟩ := hrow r (by omega)
      rw [hd]
      have hm1 := bulk_mem ((List.range n).map fun r => intRow (H := H) .u8 (A r) (L r) (Z r)) (intRow .u8 (A r) (L r) (Z r)) (List.mem_map.2 ⟨r, List.mem_range.2 hr, rfl⟩)
      simp only [Rows.uptoBulk]
      have hm2 : L r ≤ Rows.uptoBulk (intRow (H := H) .u8 (A r) (L r) (Z r)) := by
        unfold intRow
        cases hA : A r with
        | none => have := h6 hA; simp only []; omega
        | some a' =>
          have := bulk_len (H := H) (lits .u8 ((Z r).take (L r)))
          have e : (lits (H := H) .u8 ((Z r).take (L r))).length = L r := by simp [lits]; omega
          simp only [Rows.uptoBulk]
          omega
      omega
    have hk : ∀ r, r < n → ∃ b : List UInt8, b.length = L r ∧ SeeB W (.slice (A r) (L r) (C r)) b := fun r hr => by
      obtain ⟨h1, h2, h3, h4, h5, h6, h7⟩ := hrow r (by omega)
      exact see_row h2 h3 h4 h5 h6 (fun a' ha' => (h7 a' ha').2)
    have hch : ∃ F : Nat → List UInt8, ∀ r, r < n → (F r).length = L r ∧ SeeB W (.slice (A r) (L r) (C r)) (F r) :=
      ⟨fun i => if h : i < n then (hk i h).choose else [], fun i hi => by simp only [dif_pos hi]; exact (hk i hi).choose_spec⟩
    obtain ⟨F, hF⟩ := hch
    have hln : ((List.range n).map F).length = n := by simp
    have hget : ∀ (j : Nat) (b : List UInt8), ((List.range n).map F)[j]? = some b → j < n ∧ b = F j := fun j b hj => by
      have h1 := (List.getElem?_eq_some_iff.1 hj).1
      rw [hln] at h1
      rw [List.getElem?_map, List.getElem?_range h1] at hj
      injection hj with hj
      exact ⟨h1, hj.symm⟩
    refine ⟨_, (List.range n).map F, hcs, ?_, by rw [hln]; exact hbk, fun b hb => ?_⟩
    · obtain ⟨g, off, spot⟩ := a
      by_cases h0 : n = 0
      · subst h0
        exact ⟨_, cap, rfl, Nat.zero_le _, by unfold maxLen at hm; omega, 0, 0, fun h => absurd h (Nat.lt_irrefl _), fun j b hj => by simp at hj⟩
      · have h00 := (hrow 0 (by omega)).1
        have hspot : spot = none := by simpa [Addr.add] using World.cell?_spot h00
        subst hspot
        refine ⟨_, cap, by rw [hln], by rw [hln]; exact hl, by unfold maxLen at hm; omega, g, off, fun _ => rfl, fun j b hj => ?_⟩
        obtain ⟨h1, rfl⟩ := hget j b hj
        have h2 := (hrow j (by omega)).1
        rw [add_flat] at h2
        exact ⟨_, h2, (hF j h1).2⟩
    · obtain ⟨r, h1, rfl⟩ := List.mem_map.1 hb
      rw [(hF r (List.mem_range.1 h1)).1]
      exact hLb r (List.mem_range.1 h1)
theorem drop_at {l : List Value} {k : Nat} {v : Value} (h : (l.drop k).take 1 = [v]) : l[k]? = some v := by
  have := congrArg (fun m => m[0]?) h
  simpa using this
theorem take_at {l : List Value} {k n : Nat} {m : List Value} (h : (l.drop k).take n = m) {j : Nat} (hj : j < n) : l[k + j]? = m[j]? := by
  rw [← h, List.getElem?_take, if_pos hj, List.getElem?_drop]
theorem hd_fieldsA : ∃ fs : Array Field, Try.prog.underlying 25 = some (.struct fs) ∧ fs.size = 7 ∧ fs.toList.map (fun f => (f.type, f.offset)) = [(3, 0), (3, 1), (3, 2), (23, 3), (23, 35), (23, 67), (23, 99)] :=
  ⟨_, Try.underlying25, rfl, rfl⟩
theorem i64_wf {a : Int} (h : (Lit.int .i64 a).wf = true) : -9223372036854775808 ≤ a ∧ a ≤ 9223372036854775807 := by
  simpa [Lit.wf, IntKind.min, IntKind.max, IntKind.signed, IntKind.bits] using h
theorem hd_cells {H : Type} {enc : TypeId × Value → H} {W : World} {fuel : Nat} {cs : List Value} {x : DataW H × List MemPlace}
    (hf : DataW.trod enc Try.prog W 0 (fun _ => true) true fuel 25 cs = some x) : ∃ y : Hd, y.fits ∧ cs = hdCells y := by
  obtain ⟨fs, hfd, hfz, hft⟩ := hd_fieldsA
  obtain ⟨xs, n, _, hx, hl, hlen, hfs⟩ := DataW.trod_struct hfd hf
  have hl : cs.length = 131 := hl.trans (by kernel_rfl)
  have hlen : xs.length = 7 := hlen.trans hfz
  have cK : Try.prog.cellsOf 23 = 32 := by kernel_rfl
  have cI : Try.prog.cellsOf 3 = 1 := by kernel_rfl
  have g : ∀ (i : Nat) (t : TypeId) (o : Nat), (fs.toList.map (fun f => (f.type, f.offset)))[i]? = some (t, o) → ∃ y, DataW.trod enc Try.prog W 0 (fun _ => true) true n t ((cs.drop o).take (Try.prog.cellsOf t)) = some y := by
    intro i t o h
    have hi : i < 7 := by
      have := (List.getElem?_eq_some_iff.1 h).1
      rw [hft] at this
      exact this
    rw [List.getElem?_map] at h
    obtain ⟨f, h1, h2⟩ := Option.map_eq_some_iff.1 h
    have := hfs i f (by rw [← h1]; simp)
    injection h2 with h3 h4
    rw [h3, h4] at this
    exact ⟨xs[i], this.trans (List.getElem?_eq_getElem (by omega))⟩
  rw [hft] at g
  obtain ⟨y0, t0⟩ := g 0 3 0 rfl
  obtain ⟨y1, t1⟩ := g 1 3 1 rfl
  obtain ⟨y2, t2⟩ := g 2 3 2 rfl
  obtain ⟨y3, t3⟩ := g 3 23 3 rfl
  obtain ⟨y4, t4⟩ := g 4 23 35 rfl
  obtain ⟨y5, t5⟩ := g 5 23 67 rfl
  obtain ⟨y6, t6⟩ := g 6 23 99 rfl
  rw [cI] at t0 t1 t2
  rw [cK] at t3 t4 t5 t6
  obtain ⟨a0, e0, _, w0⟩ := DataW.trod_int Try.underlying3 t0
  obtain ⟨a1, e1, _, w1⟩ := DataW.trod_int Try.underlying3 t1
  obtain ⟨a2, e2, _, w2⟩ := DataW.trod_int Try.underlying3 t2
  obtain ⟨k3, e3⟩ := key_cells (by rw [List.length_take, List.length_drop]; omega) t3
  obtain ⟨k4, e4⟩ := key_cells (by rw [List.length_take, List.length_drop]; omega) t4
  obtain ⟨k5, e5⟩ := key_cells (by rw [List.length_take, List.length_drop]; omega) t5
  obtain ⟨k6, e6⟩ := key_cells (by rw [List.length_take, List.length_drop]; omega) t6
  refine ⟨⟨a0, a1, a2, k3, k4, k5, k6⟩, ⟨i64_wf w0, i64_wf w1, i64_wf w2⟩, ?_⟩
  refine List.ext_getElem? fun i => ?_
  rcases Nat.lt_or_ge i 131 with hi | hi
  · rcases Nat.lt_or_ge i 3 with h3 | h3
    · match i, h3 with
      | 0, _ => exact drop_at e0
      | 1, _ => exact drop_at e1
      | 2, _ => exact drop_at e2
    rcases Nat.lt_or_ge i 35 with h4 | h4
    · obtain ⟨j, rfl⟩ : ∃ j, i = 3 + j := ⟨i - 3, by omega⟩
      rw [take_at e3 (by omega : j < 32)]
      obtain ⟨u, hu⟩ : ∃ u, (bytesOf 32 k3)[j]? = some u := ⟨_, List.getElem?_eq_getElem (by rw [bytesOf_length]; omega)⟩
      rw [hu]
      exact (hd_par ⟨a0, a1, a2, k3, k4, k5, k6⟩ hu).symm
    rcases Nat.lt_or_ge i 67 with h5 | h5
    · obtain ⟨j, rfl⟩ : ∃ j, i = 35 + j := ⟨i - 35, by omega⟩
      rw [take_at e4 (by omega : j < 32)]
      obtain ⟨u, hu⟩ : ∃ u, (bytesOf 32 k4)[j]? = some u := ⟨_, List.getElem?_eq_getElem (by rw [bytesOf_length]; omega)⟩
      rw [hu]
      exact (hd_txs ⟨a0, a1, a2, k3, k4, k5, k6⟩ hu).symm
    rcases Nat.lt_or_ge i 99 with h6 | h6
    · obtain ⟨j, rfl⟩ : ∃ j, i = 67 + j := ⟨i - 67, by omega⟩
      rw [take_at e5 (by omega : j < 32)]
      obtain ⟨u, hu⟩ : ∃ u, (bytesOf 32 k5)[j]? = some u := ⟨_, List.getElem?_eq_getElem (by rw [bytesOf_length]; omega)⟩
      rw [hu]
      exact (hd_app ⟨a0, a1, a2, k3, k4, k5, k6⟩ hu).symm
    · obtain ⟨j, rfl⟩ : ∃ j, i = 99 + j := ⟨i - 99, by omega⟩
      rw [take_at e6 (by omega : j < 32)]
      obtain ⟨u, hu⟩ : ∃ u, (bytesOf 32 k6)[j]? = some u := ⟨_, List.getElem?_eq_getElem (by rw [bytesOf_length]; omega)⟩
      rw [hu]
      exact (hd_res ⟨a0, a1, a2, k3, k4, k5, k6⟩ hu).symm
  · rw [List.getElem?_eq_none (by omega), List.getElem?_eq_none (by rw [hdCells_len]; omega)]
theorem hd_arg {H : Type} {enc : TypeId × Value → H} {W : World} {base : Nat} {v : Value} {d : DataW H} {p : List MemPlace}
    (hok : Value.okWide Try.prog W .any base 25 v) (h : DataW.Trod enc Try.prog W 0 (fun _ => true) true 25 v d p) : ∃ y : Hd, y.fits ∧ v = hdV y := by
  obtain ⟨fs, hfd, _⟩ := hd_fieldsA
  obtain ⟨cs, rfl, _⟩ := okWide_struct hfd hok
  obtain ⟨fuel, hf⟩ := h
  obtain ⟨y, h1, h2⟩ := hd_cells hf
  exact ⟨y, h1, by rw [show cs = (hdCells y).toArray from Array.ext' h2]⟩
theorem bl_fieldsA : ∃ fs : Array Field, Try.prog.underlying 28 = some (.struct fs) ∧ fs.size = 2 ∧ fs.toList.map (fun f => (f.type, f.offset)) = [(25, 0), (26, 131)] :=
  ⟨_, Try.underlying28, rfl, rfl⟩
theorem bl_arg {H : Type} {enc : TypeId × Value → H} {W : World} {base : Nat} {v : Value} {d : DataW H} {p : List MemPlace}
    (hok : Value.okWide Try.prog W .any base 28 v) (h : DataW.Trod enc Try.prog W 0 (fun _ => true) true 28 v d p) :
    ∃ (y : Hd) (tv : Value) (txs : List (List UInt8)), y.fits ∧ v = blV y tv ∧ TxsAt W tv txs ∧ txs.length ≤ Rows.uptoBulk d ∧ ∀ b ∈ txs, b.length ≤ Rows.uptoBulk d := by
  obtain ⟨fs, hfd, hfz, hft⟩ := bl_fieldsA
  obtain ⟨cs, rfl, _⟩ := okWide_struct hfd hok
  obtain ⟨fuel, hf⟩ := h
  obtain ⟨xs, n, _, hx, hl, hlen, hfs⟩ := DataW.trod_struct hfd hf
  have hl : cs.toList.length = 132 := hl.trans (by kernel_rfl)
  have hlen : xs.length = 2 := hlen.trans hfz
  have cH : Try.prog.cellsOf 25 = 131 := by kernel_rfl
  have cT : Try.prog.cellsOf 26 = 1 := by kernel_rfl
  have g : ∀ (i : Nat) (t : TypeId) (o : Nat), (fs.toList.map (fun f => (f.type, f.offset)))[i]? = some (t, o) → ∃ y, y.1 ∈ xs.map (·.1) ∧ DataW.trod enc Try.prog W 0 (fun _ => true) true n t ((cs.toList.drop o).take (Try.prog.cellsOf t)) = some y := by
    intro i t o h
    have hi : i < 2 := by
      have := (List.getElem?_eq_some_iff.1 h).1
      rw [hft] at this
      exact this
    rw [List.getElem?_map] at h
    obtain ⟨f, h1, h2⟩ := Option.map_eq_some_iff.1 h
    have := hfs i f (by rw [← h1]; simp)
    injection h2 with h3 h4
    rw [h3, h4] at this
    exact ⟨xs[i], List.mem_map.2 ⟨_, List.getElem_mem (by omega), rfl⟩, this.trans (List.getElem?_eq_getElem (by omega))⟩
  rw [hft] at g
  obtain ⟨y0, _, t0⟩ := g 0 25 0 rfl
  obtain ⟨y1, m1, t1⟩ := g 1 26 131 rfl
  rw [cH] at t0
  rw [cT] at t1
  obtain ⟨y, hy, e0⟩ := hd_cells t0
  obtain ⟨tv, txs, e1, ht, hn, hb⟩ := rows_cells t1
  have hbk : Rows.uptoBulk y1.1 ≤ Rows.uptoBulk d := by
    rw [show d = .agg (xs.map (·.1)) from congrArg Prod.fst hx]
    have := bulk_mem _ _ m1
    simp only [Rows.uptoBulk]
    omega
  refine ⟨y, tv, txs, hy, ?_, ht, Nat.le_trans hn hbk, fun b hm => Nat.le_trans (hb b hm) hbk⟩
  have e : cs = (blCells y tv).toArray := by
    refine Array.ext' (List.ext_getElem? fun i => ?_)
    rw [List.toList_toArray]
    unfold blCells
    rcases Nat.lt_or_ge i 131 with hi | hi
    · rw [List.getElem?_append_left (by rw [hdCells_len]; exact hi), ← e0, List.drop_zero, List.getElem?_take, if_pos hi]
    · rw [List.getElem?_append_right (by rw [hdCells_len]; exact hi), hdCells_len]
      rcases Nat.eq_or_lt_of_le hi with rfl | hi
      · exact drop_at e1
      · rw [List.getElem?_eq_none (by omega), List.getElem?_eq_none (by simp; omega)]
  rw [e]
theorem lenSum_all {k : Nat} : ∀ txs : List (List UInt8), (∀ b ∈ txs, b.length ≤ k) → lenSum txs ≤ txs.length * k
  | [], _ => by simp [lenSum]
  | b :: l, h => by
    have ih := lenSum_all l (fun b hb => h b (List.mem_cons_of_mem _ hb))
    have h1 := h b (List.mem_cons_self ..)
    unfold lenSum at ih ⊢
    rw [List.map_cons, List.sum_cons, List.length_cons, Nat.succ_mul]
    omega
end Go.Proofs.Ytnhggaghidbniaa
