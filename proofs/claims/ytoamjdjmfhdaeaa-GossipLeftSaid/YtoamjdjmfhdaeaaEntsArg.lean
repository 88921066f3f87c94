/- An argument that is a list of entries. -/
import Derived.Test.YtoamjdjmfhdaeaaBytesArg
import Derived.Test.YtoamjdjmfhdaeaaKeysArg
import Derived.SizedLaws
import Derived.Test.YtoamjdjmfhdaeaaGosE
namespace Go.Proofs.Ytoamjdjmfhdaeaa
open Go.ChangeShapes Go.WideShapes Go.ChangeAt Go.RowKit Go.WideMaps Go.Deep
set_option linter.unusedVariables false
set_option linter.unusedSimpArgs false
open ShaW Sha

theorem weightsAll_mem {H : Type} {P : Program} {e : TypeId} : ∀ (l : List (DataW H)) (d : DataW H), d ∈ l → ∀ x, x ∈ d.weights P e → x ∈ DataW.weightsAll P e l
  | [], d, h, x, hx => by simp at h
  | y :: r, d, h, x, hx => by
    unfold DataW.weightsAll
    rw [List.mem_append]
    rcases List.mem_cons.1 h with rfl | h
    · exact .inl hx
    · exact .inr (weightsAll_mem r d h x hx)
theorem weightsEach_mem {H : Type} {P : Program} : ∀ (ts : List TypeId) (l : List (DataW H)) (i : Nat) (t : TypeId) (d : DataW H), ts[i]? = some t → l[i]? = some d → ∀ x, x ∈ d.weights P t → x ∈ DataW.weightsEach P ts l
  | [], _, _, _, _, h, _, _, _ => by simp at h
  | _ :: _, [], _, _, _, _, h, _, _ => by simp at h
  | t0 :: ts, d0 :: l, i, t, d, h1, h2, x, hx => by
    unfold DataW.weightsEach
    rw [List.mem_append]
    cases i with
    | zero =>
      rw [List.getElem?_cons_zero] at h1 h2
      injection h1 with h1
      injection h2 with h2
      subst h1 h2
      exact .inl hx
    | succ i =>
      rw [List.getElem?_cons_succ] at h1 h2
      exact .inr (weightsEach_mem ts l i t d h1 h2 x hx)
theorem see_ints {H : Type} {enc : TypeId × Value → H} {W : World} {t e : TypeId} {k : IntKind} {fuel : Nat} {cs : List Value} {x : DataW H × List MemPlace}
    (ht : Try.prog.underlying t = some (.slice e)) (he : Try.prog.underlying e = some (.int k)) (hc : Try.prog.cellsOf e = 1)
    (hf : DataW.trod enc Try.prog W 0 (fun _ => true) true fuel t cs = some x) (hw : ∀ y ∈ x.1.weights Try.prog t, y ≤ 140737488351232) :
    ∃ (rv : Value) (zs : List Int), cs = [rv] ∧ SeeT W rv zs.length (zs.map (Value.int k)) ∧ (∀ z ∈ zs, (Lit.int k z).wf = true) ∧ zs.length * Try.prog.bytesOf e ≤ 140737488351232 := by
  rcases open_ints ht he hc hf with ⟨hcs, hx⟩ | ⟨a, n, cap, zs, hcs, _, hl, hm, hz, hx, hcell, hwz⟩
  · exact ⟨_, [], hcs, ⟨none, 0, rfl, Reads.none_, trivial⟩, fun z h => by simp at h, by simp⟩
  · simp only [if_true] at hz
    refine ⟨_, zs.take n, hcs, ?_, fun z h => hwz z (List.mem_of_mem_take h), ?_⟩
    · have hn : (zs.take n).length = n := by rw [List.length_take]; omega
      rw [hn]
      refine ⟨some a, cap, rfl, ⟨by rw [List.length_map, hn, Nat.mul_one], fun hp => ?_⟩, trivial⟩
      obtain ⟨b, off, rfl, hcc⟩ := ints_at hcell (by omega)
      refine ⟨_, rfl, World.block_lt_of_cell? W _ (hcc 0 (by omega)), fun j u hu => ?_⟩
      have hj : j < n := by
        rcases Nat.lt_or_ge j n with h | h
        · exact h
        · rw [List.getElem?_eq_none (by rw [List.length_map, hn]; omega)] at hu; cases hu
      rw [add_flat, hcc j (by omega), ← hu, List.getElem?_map, List.getElem?_take, if_pos hj]
      have hjl : j < zs.length := by omega
      simp [List.getD_eq_getElem?_getD, hjl]
    · have hin : ((lits (H := H) k (zs.take n)).length + (lits (H := H) k (zs.drop n)).length) * Try.prog.bytesOf e ∈ x.1.weights Try.prog t := by
        rw [hx]
        simp only []
        unfold DataW.weights
        rw [ht]
        simp only [List.mem_cons]
        left
        trivial
      have h9 := hw _ hin
      have e1 : (lits (H := H) k (zs.take n)).length = (zs.take n).length := by simp [lits]
      have h8 : (zs.take n).length * Try.prog.bytesOf e ≤ ((lits (H := H) k (zs.take n)).length + (lits (H := H) k (zs.drop n)).length) * Try.prog.bytesOf e := Nat.mul_le_mul_right _ (by omega)
      omega
theorem bytes_of_wf : ∀ (zs : List Int), (∀ z ∈ zs, (Lit.int .u8 z).wf = true) → zs.map (Value.int .u8) = bytesOf zs.length (fun j => UInt8.ofNat (zs.getD j 0).toNat) := by
  intro zs h
  refine List.ext_getElem? fun i => ?_
  rcases Nat.lt_or_ge i zs.length with hi | hi
  · rw [bytesOf_get _ hi, List.getElem?_map, List.getElem?_eq_getElem hi]
    have h1 : zs.getD i 0 = zs[i] := by simp [List.getD_eq_getElem?_getD, hi]
    rw [h1, u8_ofInt _ (h _ (List.getElem_mem hi))]
    rfl
  · rw [List.getElem?_eq_none (by simpa using hi), List.getElem?_eq_none (by rw [bytesOf_length]; omega)]
theorem drop_at {l : List Value} {k : Nat} {v : Value} (h : (l.drop k).take 1 = [v]) : l[k]? = some v := by
  have := congrArg (fun m => m[0]?) h
  simpa using this
theorem entry_fields : ∃ fs : Array Field, Try.prog.underlying 47 = some (.struct fs) ∧ fs.size = 10 ∧ fs.toList.map (fun f => (f.type, f.offset)) = [(41, 0), (33, 32), (9, 33), (45, 34), (45, 35), (45, 36), (3, 37), (3, 38), (3, 39), (24, 40)] :=
  ⟨_, Try.underlying47, rfl, rfl⟩
theorem entry_cells {H : Type} {enc : TypeId × Value → H} {W : World} {fuel : Nat} {cs : List Value} {x : DataW H × List MemPlace}
    (hf : DataW.trod enc Try.prog W 0 (fun _ => true) true fuel 47 cs = some x) (hw : ∀ y ∈ x.1.weights Try.prog 47, y ≤ 140737488351232) :
    ∃ y : EItem, cs = y.cells ∧ EntSee W y.e y.rv y.pv ∧ y.e.rn ≤ 140737488351232 ∧ y.e.peers.length * 8 ≤ 140737488351232 := by
  obtain ⟨fs, hfd, hfz, hft⟩ := entry_fields
  obtain ⟨xs, n, _, hx, hl, hlen, hfs⟩ := DataW.trod_struct hfd hf
  have hl : cs.length = 41 := hl.trans (by kernel_rfl)
  have hlen : xs.length = 10 := hlen.trans hfz
  have cK : Try.prog.cellsOf 41 = 32 := by kernel_rfl
  have cR : Try.prog.cellsOf 33 = 1 := by kernel_rfl
  have cS : Try.prog.cellsOf 9 = 1 := by kernel_rfl
  have cU : Try.prog.cellsOf 45 = 1 := by kernel_rfl
  have cI : Try.prog.cellsOf 3 = 1 := by kernel_rfl
  have cP : Try.prog.cellsOf 24 = 1 := by kernel_rfl
  have g : ∀ (i : Nat) (t : TypeId) (o : Nat), (fs.toList.map (fun f => (f.type, f.offset)))[i]? = some (t, o) → DataW.trod enc Try.prog W 0 (fun _ => true) true n t ((cs.drop o).take (Try.prog.cellsOf t)) = xs[i]? := by
    intro i t o h
    rw [List.getElem?_map] at h
    obtain ⟨f, h1, h2⟩ := Option.map_eq_some_iff.1 h
    have := hfs i f (by rw [← h1]; simp)
    injection h2 with h3 h4
    rw [h3, h4] at this
    exact this
  rw [hft] at g
  have gx : ∀ i, i < 10 → ∃ y, xs[i]? = some y ∧ y.1 ∈ xs.map (·.1) := fun i hi => ⟨xs[i], List.getElem?_eq_getElem (by omega), List.mem_map.2 ⟨_, List.getElem_mem (by omega), rfl⟩⟩
  obtain ⟨y0, e0, m0⟩ := gx 0 (by omega)
  obtain ⟨y1, e1, m1⟩ := gx 1 (by omega)
  obtain ⟨y2, e2, m2⟩ := gx 2 (by omega)
  obtain ⟨y3, e3, m3⟩ := gx 3 (by omega)
  obtain ⟨y4, e4, m4⟩ := gx 4 (by omega)
  obtain ⟨y5, e5, m5⟩ := gx 5 (by omega)
  obtain ⟨y6, e6, m6⟩ := gx 6 (by omega)
  obtain ⟨y7, e7, m7⟩ := gx 7 (by omega)
  obtain ⟨y8, e8, m8⟩ := gx 8 (by omega)
  obtain ⟨y9, e9, m9⟩ := gx 9 (by omega)
  have t0 := (g 0 41 0 rfl).trans e0
  have t1 := (g 1 33 32 rfl).trans e1
  have t2 := (g 2 9 33 rfl).trans e2
  have t3 := (g 3 45 34 rfl).trans e3
  have t4 := (g 4 45 35 rfl).trans e4
  have t5 := (g 5 45 36 rfl).trans e5
  have t6 := (g 6 3 37 rfl).trans e6
  have t7 := (g 7 3 38 rfl).trans e7
  have t8 := (g 8 3 39 rfl).trans e8
  have t9 := (g 9 24 40 rfl).trans e9
  rw [cK] at t0
  rw [cR] at t1
  rw [cS] at t2
  rw [cU] at t3 t4 t5
  rw [cI] at t6 t7 t8
  rw [cP] at t9
  obtain ⟨ky, hk⟩ := key_cells (by rw [List.length_take, List.length_drop]; omega) t0
  have hwp : ∀ (i : Nat) (t : TypeId) (y : DataW H × List MemPlace), (fs.toList.map (fun f => f.type))[i]? = some t → xs[i]? = some y → ∀ z ∈ y.1.weights Try.prog t, z ≤ 140737488351232 := fun i t y h1 h2 z hz => by
    refine hw z ?_
    rw [hx]
    simp only []
    unfold DataW.weights
    rw [hfd]
    exact weightsEach_mem _ _ i t y.1 h1 (by rw [List.getElem?_map, h2]; rfl) z hz
  have hty : fs.toList.map (fun f => f.type) = [41, 33, 9, 45, 45, 45, 3, 3, 3, 24] := by
    have := congrArg (List.map Prod.fst) hft
    rw [List.map_map] at this
    exact this
  rw [hty] at hwp
  have b1 : Try.prog.bytesOf 5 = 1 := by kernel_rfl
  have b8 : Try.prog.bytesOf 3 = 8 := by kernel_rfl
  obtain ⟨rv, zs, h1, r1, r2, r3⟩ := see_ints Try.underlying33 Try.underlying5 (by kernel_rfl) t1 (hwp 1 _ y1 rfl e1)
  obtain ⟨sn, h2, _, _⟩ := DataW.trod_string Try.underlying9 t2
  obtain ⟨a3, h3, _, _⟩ := DataW.trod_int Try.underlying45 t3
  obtain ⟨a4, h4, _, _⟩ := DataW.trod_int Try.underlying45 t4
  obtain ⟨a5, h5, _, _⟩ := DataW.trod_int Try.underlying45 t5
  obtain ⟨a6, h6, _, _⟩ := DataW.trod_int Try.underlying3 t6
  obtain ⟨a7, h7, _, _⟩ := DataW.trod_int Try.underlying3 t7
  obtain ⟨a8, h8, _, _⟩ := DataW.trod_int Try.underlying3 t8
  obtain ⟨pv, ps, h9, p1, p2, p3⟩ := see_ints Try.underlying24 Try.underlying3 (by kernel_rfl) t9 (hwp 9 _ y9 rfl e9)
  rw [b1] at r3
  rw [b8] at p3
  rw [bytes_of_wf zs r2] at r1
  refine ⟨⟨⟨ky, zs.length, fun j => UInt8.ofNat (zs.getD j 0).toNat, sn, a3, a4, a5, a6, a7, a8, ps⟩, rv, pv⟩, ?_, ⟨r1, p1⟩, ?_, ?_⟩
  · show cs = bytesOf 32 ky ++ [rv, .string sn, .int .u64 a3, .int .u64 a4, .int .u64 a5, .int .i64 a6, .int .i64 a7, .int .i64 a8, pv]
    rw [← hk]
    have q1 := drop_at h1
    have q2 := drop_at h2
    have q3 := drop_at h3
    have q4 := drop_at h4
    have q5 := drop_at h5
    have q6 := drop_at h6
    have q7 := drop_at h7
    have q8 := drop_at h8
    have q9 := drop_at h9
    refine List.ext_getElem? fun i => ?_
    rcases Nat.lt_or_ge i 32 with hi | hi
    · rw [List.getElem?_append_left (by rw [List.length_take, List.length_drop]; omega), List.getElem?_take, if_pos hi, List.getElem?_drop, Nat.zero_add]
    · rw [List.getElem?_append_right (by rw [List.length_take, List.length_drop]; omega)]
      have e32 : (List.take 32 (List.drop 0 cs)).length = 32 := by rw [List.length_take, List.length_drop]; omega
      rw [e32]
      rcases Nat.lt_or_ge i 41 with hi2 | hi2
      · obtain ⟨j, rfl⟩ : ∃ j, i = 32 + j := ⟨i - 32, by omega⟩
        rw [show 32 + j - 32 = j by omega]
        have hj : j < 9 := by omega
        match j, hj with
        | 0, _ => exact q1
        | 1, _ => exact q2
        | 2, _ => exact q3
        | 3, _ => exact q4
        | 4, _ => exact q5
        | 5, _ => exact q6
        | 6, _ => exact q7
        | 7, _ => exact q8
        | 8, _ => exact q9
      · rw [List.getElem?_eq_none (by omega), List.getElem?_eq_none (by simp; omega)]
  · show zs.length ≤ _
    omega
  · exact p3
theorem entsOf_get : ∀ (l : List EItem) (j : Nat), (entsOf l)[j]? = (l[j / 41]?).bind fun x => x.cells[j % 41]?
  | [], j => by simp [entsOf]
  | k :: l, j => by
    show (k.cells ++ entsOf l)[j]? = _
    rcases Nat.lt_or_ge j 41 with h | h
    · rw [List.getElem?_append_left (by rw [EItem.len]; exact h), show j / 41 = 0 by omega, show j % 41 = j by omega]
      rfl
    · rw [List.getElem?_append_right (by rw [EItem.len]; exact h), EItem.len, entsOf_get l (j - 41), show j / 41 = (j - 41) / 41 + 1 by omega, show (j - 41) % 41 = j % 41 by omega, List.getElem?_cons_succ]
theorem ents_arg {H : Type} {enc : TypeId × Value → H} {W : World} {base : Nat} {v : Value} {d : DataW H} {p : List MemPlace}
    (hok : Value.okWide Try.prog W .any base 22 v) (h : DataW.Trod enc Try.prog W 0 (fun _ => true) true 22 v d p) (hw : ∀ x ∈ d.weights Try.prog 22, x ≤ 140737488351232) :
    ∃ ao n cap, ∃ l : List EItem, v = .slice ao n cap ∧ EntsAt W ao n cap l ∧ n ≤ 977343669106 ∧ ∀ x ∈ l, x.e.rn ≤ 140737488351232 ∧ x.e.peers.length ≤ 17592186043904 := by
  obtain ⟨ao, n, cap, rfl⟩ := okWide_slice Try.underlying22 hok
  obtain ⟨fuel, hf⟩ := h
  have ce : Try.prog.cellsOf 47 = 41 := by kernel_rfl
  rcases open_slice Try.underlying22 hf with ⟨hcs, hx⟩ | ⟨a, len', cap', m, n', D, Pl, hcs, hb, hl, hm, hmm, hx, hel⟩
  · simp [Value.cells] at hcs
    obtain ⟨rfl, rfl, rfl⟩ := hcs
    exact ⟨none, 0, 0, [], rfl, ⟨rfl, Nat.le_refl _, by omega, ⟨0, 0, fun h => absurd h (Nat.lt_irrefl _), fun j u hu => by simp [entsOf] at hu⟩, fun x hx => by simp at hx⟩, Nat.zero_le _, fun x hx => by simp at hx⟩
  · simp [Value.cells] at hcs
    obtain ⟨rfl, rfl, rfl⟩ := hcs
    simp only [if_true] at hmm
    subst hmm
    unfold maxLen at hm
    rw [ce] at hel
    obtain ⟨sp, hd⟩ : ∃ sp, d = .slice ((List.range n).map D) sp := ⟨_, congrArg Prod.fst hx⟩
    have hbe : Try.prog.bytesOf 47 = 144 := by kernel_rfl
    have hwd : ∀ i, i < n → ∀ x ∈ (D i).weights Try.prog 47, x ≤ 140737488351232 := fun i hi x hx => by
      refine hw x ?_
      rw [hd]
      unfold DataW.weights
      rw [Try.underlying22]
      simp only [List.mem_cons, List.mem_append]
      exact .inr (.inl (weightsAll_mem _ (D i) (List.mem_map.2 ⟨i, List.mem_range.2 hi, rfl⟩) x hx))
    have hbn : n ≤ 977343669106 := by
      have hin : (((List.range n).map D).length + sp.length) * Try.prog.bytesOf 47 ∈ d.weights Try.prog 22 := by
        rw [hd]
        unfold DataW.weights
        rw [Try.underlying22]
        simp only [List.mem_cons]
        left
        trivial
      have := hw _ hin
      rw [hbe, List.length_map, List.length_range] at this
      omega
    have hk : ∀ i, i < n → ∃ y : EItem, (∀ j u, y.cells[j]? = some u → W.cell? ((a.add (i * 41)).add j) = some u) ∧ EntSee W y.e y.rv y.pv ∧ y.e.rn ≤ 140737488351232 ∧ y.e.peers.length ≤ 17592186043904 := fun i hi => by
      obtain ⟨cs', h1, h2⟩ := hel i (by omega)
      obtain ⟨_, hlen, hcell⟩ := World.cells?_some h1
      obtain ⟨y, rfl, hs, hr1, hr2⟩ := entry_cells h2 (hwd i hi)
      refine ⟨y, fun j u hu => ?_, hs, hr1, by omega⟩
      have hj : j < 41 := by
        rcases Nat.lt_or_ge j 41 with h | h
        · exact h
        · rw [List.getElem?_eq_none (by rw [EItem.len]; exact h)] at hu; cases hu
      exact (hcell j hj).trans hu
    rcases Nat.eq_zero_or_pos n with rfl | hpos
    · exact ⟨_, 0, _, [], rfl, ⟨rfl, hl, by omega, ⟨0, 0, fun h => absurd h (Nat.lt_irrefl _), fun j u hu => by simp [entsOf] at hu⟩, fun x hx => by simp at hx⟩, Nat.zero_le _, fun x hx => by simp at hx⟩
    · obtain ⟨b, off, spot⟩ := a
      have hspot : spot = none := by
        obtain ⟨f, hf0, _⟩ := hk 0 hpos
        have h0 : 0 < f.cells.length := by rw [EItem.len]; omega
        have := hf0 0 _ (List.getElem?_eq_getElem h0)
        simpa [Addr.add] using World.cell?_spot this
      subst hspot
      have hch : ∃ F : Nat → EItem, ∀ i, i < n → (∀ j u, (F i).cells[j]? = some u → W.cell? (((⟨b, off, none⟩ : Addr).add (i * 41)).add j) = some u) ∧ EntSee W (F i).e (F i).rv (F i).pv ∧ (F i).e.rn ≤ 140737488351232 ∧ (F i).e.peers.length ≤ 17592186043904 :=
        ⟨fun i => if h : i < n then (hk i h).choose else (hk 0 hpos).choose, fun i hi => by simp only [dif_pos hi]; exact (hk i hi).choose_spec⟩
      obtain ⟨F, hF⟩ := hch
      refine ⟨_, n, _, (List.range n).map F, rfl, ⟨by simp, hl, by omega, ⟨b, off, fun _ => rfl, fun j u hu => ?_⟩, fun x hx => ?_⟩, hbn, fun x hx => ?_⟩
      · rw [entsOf_get] at hu
        obtain ⟨kk, h1, h2⟩ := Option.bind_eq_some_iff.1 hu
        rw [List.getElem?_map] at h1
        obtain ⟨r, h3, rfl⟩ := Option.map_eq_some_iff.1 h1
        obtain ⟨h4, h5⟩ := List.getElem?_eq_some_iff.1 h3
        rw [List.getElem_range] at h5
        rw [List.length_range] at h4
        subst h5
        have := (hF _ h4).1 _ _ h2
        rw [add_flat, add_flat] at this
        rw [show off + j = off + j / 41 * 41 + j % 41 by omega]
        exact this
      · obtain ⟨r, h3, rfl⟩ := List.mem_map.1 hx
        exact (hF r (List.mem_range.1 h3)).2.1
      · obtain ⟨r, h3, rfl⟩ := List.mem_map.1 hx
        exact (hF r (List.mem_range.1 h3)).2.2
end Go.Proofs.Ytoamjdjmfhdaeaa
