/- Arguments that are slices of bytes, and slices of these. -/
import Derived.Test.YtnhggaghidbniaaClose
import Derived.Test.YtnhggaghidbniaaApp
import Derived.Deep.Matrix
import Derived.WideKeyArr2
import Derived.Test.YtnhggaghidbniaaKeyL
import Derived.Deep.Slices
namespace Go.Proofs.Ytnhggaghidbniaa
open Go.ChangeShapes Go.WideShapes Go.ChangeAt Go.RowKit Go.Deep
set_option linter.unusedVariables false
set_option maxRecDepth 100000

theorem bulk_pos {H : Type} (d : DataW H) : 1 ≤ Rows.uptoBulk d := by
  cases d with
  | lit l => cases l <;> simp [Rows.uptoBulk]
  | _ => simp [Rows.uptoBulk]
theorem bulk_len {H : Type} : ∀ l : List (DataW H), l.length ≤ Rows.uptoBulkAll l
  | [] => by simp [Rows.uptoBulkAll]
  | d :: r => by
    have h1 := bulk_pos d
    have h2 := bulk_len r
    simp only [List.length_cons, Rows.uptoBulkAll]
    omega
theorem bulk_mem {H : Type} : ∀ (l : List (DataW H)) (d : DataW H), d ∈ l → Rows.uptoBulk d ≤ Rows.uptoBulkAll l
  | [], d, h => by simp at h
  | x :: r, d, h => by
    simp only [Rows.uptoBulkAll]
    rcases List.mem_cons.1 h with rfl | h
    · omega
    · have := bulk_mem r d h
      omega
theorem u8_wf (a : Int) (h : (Lit.int .u8 a).wf = true) : 0 ≤ a ∧ a < 256 := by
  have : 0 ≤ a ∧ a ≤ 255 := by simpa [Lit.wf, IntKind.min, IntKind.max, IntKind.signed, IntKind.bits] using h
  omega
theorem u8_ofInt (a : Int) (h : (Lit.int .u8 a).wf = true) : (((UInt8.ofNat a.toNat).toNat : Nat) : Int) = a := by
  have := u8_wf a h
  rw [UInt8.toNat_ofNat', Nat.mod_eq_of_lt (by omega)]
  omega

theorem slice_bytes {H : Type} {enc : TypeId × Value → H} {W : World} {base : Nat} {t e : TypeId} {v : Value} {d : DataW H} {p : List MemPlace}
    (ht : Try.prog.underlying t = some (.slice e)) (he : Try.prog.underlying e = some (.int .u8)) (hc : Try.prog.cellsOf e = 1)
    (hok : Value.okWide Try.prog W .any base t v) (h : DataW.Trod enc Try.prog W 0 (fun _ => true) true t v d p) :
    ∃ ao n cap b off, ∃ f : Nat → UInt8, v = .slice ao n cap ∧ n ≤ cap ∧ cap ≤ maxLen ∧ (0 < n → ao = some ⟨b, off, none⟩) ∧ (∀ j, j < n → W.cell? ⟨b, off + j, none⟩ = some (.int .u8 ((f j).toNat : Int))) ∧
      n ≤ Rows.uptoBulk d := by
  obtain ⟨ao, n, cap, rfl⟩ := okWide_slice ht hok
  obtain ⟨fuel, hf⟩ := h
  rcases open_ints ht he hc hf with ⟨hcs, hx⟩ | ⟨a, len', cap', zs, hcs, _, hl, hm, hz, hx, hcell, hwz⟩
  · simp [Value.cells] at hcs
    obtain ⟨rfl, rfl, rfl⟩ := hcs
    exact ⟨none, 0, 0, 0, 0, fun _ => 0, rfl, by omega, by unfold maxLen; omega, by omega, by omega, by omega⟩
  · simp [Value.cells] at hcs
    obtain ⟨rfl, rfl, rfl⟩ := hcs
    simp at hz
    have hd : d = .slice (lits .u8 (zs.take n)) (lits .u8 (zs.drop n)) := by simpa using congrArg Prod.fst hx
    have hbk : n ≤ Rows.uptoBulk d := by
      rw [hd]
      have := bulk_len (H := H) (lits .u8 (zs.take n))
      simp only [Rows.uptoBulk]
      have e : (lits (H := H) .u8 (zs.take n)).length = n := by simp [lits]; omega
      omega
    by_cases h0 : n = 0
    · subst h0
      exact ⟨some a, 0, cap, 0, 0, fun _ => 0, rfl, hl, hm, by omega, by omega, hbk⟩
    · obtain ⟨b, off, rfl, hcc⟩ := ints_at hcell (by omega)
      refine ⟨_, n, cap, b, off, fun j => UInt8.ofNat (zs.getD j 0).toNat, rfl, hl, hm, fun _ => rfl, fun j hj => ?_, hbk⟩
      rw [hcc j (by omega), u8_ofInt _ (hwz _ ?_)]
      have hjl : j < zs.length := by omega
      simp [List.getD_eq_getElem?_getD, hjl]

theorem slice_rows {H : Type} {enc : TypeId × Value → H} {W : World} {base : Nat} {t e q : TypeId} {v : Value} {d : DataW H} {p : List MemPlace}
    (ht : Try.prog.underlying t = some (.slice e)) (he : Try.prog.underlying e = some (.slice q)) (hq : Try.prog.underlying q = some (.int .u8)) (ce : Try.prog.cellsOf e = 1) (cq : Try.prog.cellsOf q = 1)
    (hok : Value.okWide Try.prog W .any base t v) (h : DataW.Trod enc Try.prog W 0 (fun _ => true) true t v d p) :
    ∃ ao n cap b off, ∃ (A : Nat → Option Addr) (L C : Nat → Nat) (F : Nat → Nat → UInt8), v = .slice ao n cap ∧ n ≤ cap ∧ cap ≤ maxLen ∧ (0 < n → ao = some ⟨b, off, none⟩) ∧
      (∀ r, r < n → W.cell? ⟨b, off + r, none⟩ = some (.slice (A r) (L r) (C r)) ∧ L r ≤ C r ∧ C r ≤ maxLen ∧ Reads W W.heap.size 1 (A r) (L r) (bytesOf (L r) (F r)) ∧ L r ≤ Rows.uptoBulk d) ∧
      n ≤ Rows.uptoBulk d := by
  obtain ⟨ao, n, cap, rfl⟩ := okWide_slice ht hok
  obtain ⟨fuel, hf⟩ := h
  rcases open_int_rows ht he hq ce cq hf with ⟨hcs, hx⟩ | ⟨a, len', cap', A, L, C, Z, hcs, _, hl, hm, hx, hrow⟩
  · simp [Value.cells] at hcs
    obtain ⟨rfl, rfl, rfl⟩ := hcs
    exact ⟨none, 0, 0, 0, 0, fun _ => none, fun _ => 0, fun _ => 0, fun _ _ => 0, rfl, by omega, by unfold maxLen; omega, by omega, by omega, by omega⟩
  · simp [Value.cells] at hcs
    obtain ⟨rfl, rfl, rfl⟩ := hcs
    have hd : d = .slice ((List.range n).map fun r => intRow .u8 (A r) (L r) (Z r)) ((List.range (cap - n)).map fun j => intRow .u8 (A (n + j)) (L (n + j)) (Z (n + j))) := by simpa using congrArg Prod.fst hx
    have hbk : n ≤ Rows.uptoBulk d := by
      rw [hd]
      have := bulk_len ((List.range n).map fun r => intRow (H := H) .u8 (A r) (L r) (Z r))
      simp only [Rows.uptoBulk]
      rw [List.length_map, List.length_range] at this
      omega
    by_cases h0 : n = 0
    · subst h0
      exact ⟨some a, 0, cap, 0, 0, A, L, C, fun _ _ => 0, rfl, hl, hm, by omega, by omega, hbk⟩
    · obtain ⟨b, off, spot⟩ := a
      have h00 := (hrow 0 (by omega)).1
      have hspot : spot = none := by simpa [Addr.add] using World.cell?_spot h00
      subst hspot
      refine ⟨_, n, cap, b, off, A, L, C, fun r j => UInt8.ofNat ((Z r).getD j 0).toNat, rfl, hl, hm, fun _ => rfl, fun r hr => ?_, hbk⟩
      obtain ⟨h1, h2, h3, h4, h5, h6, h7⟩ := hrow r (by omega)
      rw [add_flat] at h1
      refine ⟨h1, h2, h3, ⟨by simp [bytesOf_length], fun hL => ?_⟩, ?_⟩
      · have hA : ∃ a', A r = some a' := by
          cases hA : A r with
          | none => have := h6 hA; omega
          | some a' => exact ⟨a', rfl⟩
        obtain ⟨a', ha'⟩ := hA
        obtain ⟨_, hcl⟩ := h7 a' ha'
        refine ⟨a', ha', ?_, ?_⟩
        · exact World.block_lt_of_cell? W _ (by simpa [Addr.add] using hcl 0 (by omega))
        · intro j u hu
          have hj : j < L r := by
            rcases Nat.lt_or_ge j (L r) with h | h
            · exact h
            · rw [List.getElem?_eq_none (by rw [bytesOf_length]; omega)] at hu; cases hu
          rw [bytesOf_get _ hj] at hu
          injection hu with hu
          subst hu
          rw [hcl j (by omega), u8_ofInt _ (h5 _ ?_)]
          have hjl : j < (Z r).length := by omega
          simp [List.getD_eq_getElem?_getD, hjl]
      · rw [hd]
        have hm1 := bulk_mem ((List.range n).map fun r => intRow (H := H) .u8 (A r) (L r) (Z r)) (intRow .u8 (A r) (L r) (Z r)) (List.mem_map.2 ⟨r, List.mem_range.2 hr, rfl⟩)
        simp only [Rows.uptoBulk]
        have hm2 : L r ≤ Rows.uptoBulk (intRow (H := H) .u8 (A r) (L r) (Z r)) := by
          unfold intRow
          cases hA : A r with
          | none => have := h6 hA; simp only []; omega
          | some a' =>
            have := bulk_len (H := H) (lits .u8 ((Z r).take (L r)))
            have e : (lits (H := H) .u8 ((Z r).take (L r))).length = L r := by simp [lits]; omega
            simp only [Rows.uptoBulk]
            omega
        omega
end Go.Proofs.Ytnhggaghidbniaa

/- An argument that is a key. -/
namespace Go.Proofs.Ytnhggaghidbniaa
open Go.ChangeShapes Go.WideShapes Go.ChangeAt Go.RowKit Go.WideMaps
set_option linter.unusedVariables false
set_option maxRecDepth 100000

theorem key_arr : ArrKey Try.prog 23 5 32 := ⟨Try.underlying23, by kernel_rfl, by kernel_rfl, by kernel_rfl⟩
theorem mapM_cells {H : Type} {enc : TypeId × Value → H} {P : Program} {e : TypeId} {q : IntKind} {W : World} {base : Nat} {sp : Nat → Bool} {held : Bool} (he : P.underlying e = some (.int q)) {m : Nat} {cs : List Value} {c : Nat} : ∀ (L : List Nat) (xs : List (DataW H × List MemPlace)),
    L.mapM (fun i => DataW.trod enc P W base sp held m e ((cs.drop (i * c)).take c)) = some xs → ∀ i ∈ L, ∃ a, (cs.drop (i * c)).take c = [.int q a] ∧ (Lit.int q a).wf = true
  | [], xs, h => by simp
  | j :: L, xs, h => by
    rw [List.mapM_cons] at h
    simp only [bind, Option.bind_eq_some_iff, pure, Option.some.injEq] at h
    obtain ⟨y, hy, ys, hys, rfl⟩ := h
    intro i hi
    rcases List.mem_cons.1 hi with rfl | hi
    · obtain ⟨a, ea, rfl, wa⟩ := DataW.trod_int he hy
      exact ⟨a, ea, wa⟩
    · exact mapM_cells he L ys hys i hi
theorem key_arg {H : Type} {enc : TypeId × Value → H} {W : World} {base : Nat} {v : Value} {d : DataW H} {p : List MemPlace}
    (hok : Value.okWide Try.prog W .any base 23 v) (h : DataW.Trod enc Try.prog W 0 (fun _ => true) true 23 v d p) :
    ∃ f : Nat → UInt8, v = .agg (bytesOf 32 f).toArray := by
  obtain ⟨xs, rfl, hn⟩ := okWide_arr key_arr hok
  obtain ⟨fuel, hf⟩ := h
  cases fuel with
  | zero => simp [DataW.trod] at hf
  | succ m =>
    rw [DataW.trod_step] at hf
    unfold DataW.trodStep at hf
    simp only [Try.underlying23, Value.cells] at hf
    rw [if_pos (by rw [key_arr.size]; simpa using hn)] at hf
    simp only [Option.map_eq_some_iff] at hf
    obtain ⟨ys, hy, e1⟩ := hf
    have hc := mapM_cells Try.underlying5 _ _ hy
    have hcell : ∀ i, i < 32 → ∃ a, xs.toList[i]? = some (.int .u8 a) ∧ (Lit.int .u8 a).wf = true := fun i hi => by
      obtain ⟨a, ea, wa⟩ := hc i (List.mem_range.2 hi)
      rw [show Try.prog.cellsOf 5 = 1 from by kernel_rfl, Nat.mul_one] at ea
      refine ⟨a, ?_, wa⟩
      have := congrArg (fun l => l[0]?) ea
      simpa using this
    refine ⟨fun i => match xs.toList[i]? with | some (.int _ a) => UInt8.ofNat a.toNat | _ => 0, ?_⟩
    congr 1
    apply Array.ext'
    refine List.ext_getElem? fun i => ?_
    rcases Nat.lt_or_ge i 32 with hi | hi
    · obtain ⟨a, ea, wa⟩ := hcell i hi
      rw [List.toList_toArray, bytesOf_get _ hi, ea]
      simp only []
      rw [u8_ofInt a wa]
    · rw [List.getElem?_eq_none (by simp; omega), List.getElem?_eq_none (by simp [bytesOf_length]; omega)]
end Go.Proofs.Ytnhggaghidbniaa

/- An argument that is a list of keys. -/
namespace Go.Proofs.Ytnhggaghidbniaa
open Go.ChangeShapes Go.WideShapes Go.ChangeAt Go.RowKit Go.WideMaps Go.Deep
set_option linter.unusedVariables false
set_option maxRecDepth 100000
open ShaW Sha

theorem keysOf_get : ∀ (ps : List Ky) (j : Nat), (keysOf ps)[j]? = (ps[j / 32]?).bind fun k => (bytesOf 32 k)[j % 32]?
  | [], j => by simp [keysOf]
  | k :: ps, j => by
    show (bytesOf 32 k ++ keysOf ps)[j]? = _
    rcases Nat.lt_or_ge j 32 with h | h
    · rw [List.getElem?_append_left (by rw [bytesOf_length]; exact h), show j / 32 = 0 by omega, show j % 32 = j by omega]
      rfl
    · rw [List.getElem?_append_right (by rw [bytesOf_length]; exact h), bytesOf_length, keysOf_get ps (j - 32), show j / 32 = (j - 32) / 32 + 1 by omega, show (j - 32) % 32 = j % 32 by omega, List.getElem?_cons_succ]
theorem key_cells {H : Type} {enc : TypeId × Value → H} {W : World} {base : Nat} {sp : Nat → Bool} {held : Bool} {fuel : Nat} {cs : List Value} {x : DataW H × List MemPlace}
    (hn : cs.length = 32) (hf : DataW.trod enc Try.prog W base sp held fuel 23 cs = some x) : ∃ f : Nat → UInt8, cs = bytesOf 32 f := by
  cases fuel with
  | zero => simp [DataW.trod] at hf
  | succ m =>
    rw [DataW.trod_step] at hf
    unfold DataW.trodStep at hf
    simp only [Try.underlying23] at hf
    rw [if_pos (by rw [key_arr.size]; simpa using hn)] at hf
    simp only [Option.map_eq_some_iff] at hf
    obtain ⟨ys, hy, e1⟩ := hf
    have hc := mapM_cells Try.underlying5 _ _ hy
    have hcell : ∀ i, i < 32 → ∃ a, cs[i]? = some (.int .u8 a) ∧ (Lit.int .u8 a).wf = true := fun i hi => by
      obtain ⟨a, ea, wa⟩ := hc i (List.mem_range.2 hi)
      rw [show Try.prog.cellsOf 5 = 1 from by kernel_rfl, Nat.mul_one] at ea
      refine ⟨a, ?_, wa⟩
      have := congrArg (fun l => l[0]?) ea
      simpa using this
    refine ⟨fun i => match cs[i]? with | some (.int _ a) => UInt8.ofNat a.toNat | _ => 0, ?_⟩
    refine List.ext_getElem? fun i => ?_
    rcases Nat.lt_or_ge i 32 with hi | hi
    · obtain ⟨a, ea, wa⟩ := hcell i hi
      rw [bytesOf_get _ hi, ea]
      simp only []
      rw [u8_ofInt a wa]
    · rw [List.getElem?_eq_none (by omega), List.getElem?_eq_none (by rw [bytesOf_length]; omega)]
theorem keys_arg {H : Type} {enc : TypeId × Value → H} {W : World} {base : Nat} {v : Value} {d : DataW H} {p : List MemPlace}
    (hok : Value.okWide Try.prog W .any base 80 v) (h : DataW.Trod enc Try.prog W 0 (fun _ => true) true 80 v d p) :
    ∃ ao n cap, ∃ ps : List Ky, v = .slice ao n cap ∧ KeysAt W ao n cap ps := by
  obtain ⟨ao, n, cap, rfl⟩ := okWide_slice Try.underlying80 hok
  obtain ⟨fuel, hf⟩ := h
  have ce : Try.prog.cellsOf 23 = 32 := by kernel_rfl
  rcases open_slice Try.underlying80 hf with ⟨hcs, hx⟩ | ⟨a, len', cap', m, n', D, Pl, hcs, hb, hl, hm, hmm, hx, hel⟩
  · simp [Value.cells] at hcs
    obtain ⟨rfl, rfl, rfl⟩ := hcs
    exact ⟨none, 0, 0, [], rfl, rfl, Nat.le_refl _, by omega, 0, 0, fun h => absurd h (Nat.lt_irrefl _), fun j u hu => by simp [keysOf] at hu⟩
  · simp [Value.cells] at hcs
    obtain ⟨rfl, rfl, rfl⟩ := hcs
    simp only [if_true] at hmm
    subst hmm
    unfold maxLen at hm
    rw [ce] at hel
    have hk : ∀ i, i < n → ∃ f : Ky, ∀ j u, (bytesOf 32 f)[j]? = some u → W.cell? ((a.add (i * 32)).add j) = some u := fun i hi => by
      obtain ⟨cs', h1, h2⟩ := hel i (by omega)
      obtain ⟨_, hlen, hcell⟩ := World.cells?_some h1
      obtain ⟨f, rfl⟩ := key_cells hlen h2
      refine ⟨f, fun j u hu => ?_⟩
      have hj : j < 32 := by
        rcases Nat.lt_or_ge j 32 with h | h
        · exact h
        · rw [List.getElem?_eq_none (by rw [bytesOf_length]; exact h)] at hu; cases hu
      exact (hcell j hj).trans hu
    rcases Nat.eq_zero_or_pos n with rfl | hpos
    · exact ⟨_, 0, _, [], rfl, rfl, hl, by omega, 0, 0, fun h => absurd h (Nat.lt_irrefl _), fun j u hu => by simp [keysOf] at hu⟩
    · obtain ⟨b, off, spot⟩ := a
      have hspot : spot = none := by
        obtain ⟨f, hf0⟩ := hk 0 hpos
        have := hf0 0 _ (bytesOf_get f (by omega))
        simpa [Addr.add] using World.cell?_spot this
      subst hspot
      have hch : ∃ F : Nat → Ky, ∀ i, i < n → ∀ j u, (bytesOf 32 (F i))[j]? = some u → W.cell? (((⟨b, off, none⟩ : Addr).add (i * 32)).add j) = some u :=
        ⟨fun i => if h : i < n then (hk i h).choose else fun _ => 0, fun i hi => by simp only [dif_pos hi]; exact (hk i hi).choose_spec⟩
      obtain ⟨F, hF⟩ := hch
      refine ⟨_, n, _, (List.range n).map F, rfl, by simp, hl, by omega, b, off, fun _ => rfl, fun j u hu => ?_⟩
      rw [keysOf_get] at hu
      obtain ⟨kk, h1, h2⟩ := Option.bind_eq_some_iff.1 hu
      rw [List.getElem?_map] at h1
      obtain ⟨r, h3, rfl⟩ := Option.map_eq_some_iff.1 h1
      obtain ⟨h4, h5⟩ := List.getElem?_eq_some_iff.1 h3
      rw [List.getElem_range] at h5
      rw [List.length_range] at h4
      subst h5
      have := hF _ h4 _ _ h2
      rw [add_flat, add_flat] at this
      rw [show off + j = off + j / 32 * 32 + j % 32 by omega]
      exact this
end Go.Proofs.Ytnhggaghidbniaa
