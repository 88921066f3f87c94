/- An argument that is a list of keys. -/
import Derived.Test.YtnhggaghidbniaaKeyArg
import Derived.Test.YtnhggaghidbniaaKeyL
import Derived.Deep.Slices
namespace Go.Proofs.Ytnhggaghidbniaa
open Go.ChangeShapes Go.WideShapes Go.ChangeAt Go.RowKit Go.WideMaps Go.Deep
set_option linter.unusedVariables false
set_option maxRecDepth 100000
open ShaW Sha

theorem keysOf_get : ∀ (ps : List Ky) (j : Nat), (keysOf ps)[j]? = (ps[j / 32]?).bind fun k => (bytesOf 32 k)[j % 32]?
  | [], j => by simp [keysOf]
  | k :: ps, j => by
    show (bytesOf 32 k ++ keysOf ps)[j]? = _
    rcases Nat.lt_or_ge j 32 with h | h
    · rw [List.getElem?_append_left (by rw [bytesOf_length]; exact h), show j / 32 = 0 by omega, show j % 32 = j by omega]
      rfl
    · rw [List.getElem?_append_right (by rw [bytesOf_length]; exact h), bytesOf_length, keysOf_get ps (j - 32), show j / 32 = (j - 32) / 32 + 1 by omega, show (j - 32) % 32 = j % 32 by omega, List.getElem?_cons_succ]
theorem key_cells {H : Type} {enc : TypeId × Value → H} {W : World} {base : Nat} {sp : Nat → Bool} {held : Bool} {fuel : Nat} {cs : List Value} {x : DataW H × List MemPlace}
    (hn : cs.length = 32) (hf : DataW.trod enc Try.prog W base sp held fuel 23 cs = some x) : ∃ f : Nat → UInt8, cs = bytesOf 32 f := by
  cases fuel with
  | zero => simp [DataW.trod] at hf
  | succ m =>
    rw [DataW.trod_step] at hf
    unfold DataW.trodStep at hf
    simp only [Try.underlying23] at hf
    rw [if_pos (by rw [key_arr.size]; simpa using hn)] at hf
    simp only [Option.map_eq_some_iff] at hf
    obtain ⟨ys, hy, e1⟩ := hf
    have hc := mapM_cells Try.underlying5 _ _ hy
    have hcell : ∀ i, i < 32 → ∃ a, cs[i]? = some (.int .u8 a) ∧ (Lit.int .u8 a).wf = true := fun i hi => by
      obtain ⟨a, ea, wa⟩ := hc i (List.mem_range.2 hi)
      rw [show Try.prog.cellsOf 5 = 1 from by kernel_rfl, Nat.mul_one] at ea
      refine ⟨a, ?_, wa⟩
      have := congrArg (fun l => l[0]?) ea
      simpa using this
    refine ⟨fun i => match cs[i]? with | some (.int _ a) => UInt8.ofNat a.toNat | _ => 0, ?_⟩
    refine List.ext_getElem? fun i => ?_
    rcases Nat.lt_or_ge i 32 with hi | hi
    · obtain ⟨a, ea, wa⟩ := hcell i hi
      rw [bytesOf_get _ hi, ea]
      simp only []
      rw [u8_ofInt a wa]
    · rw [List.getElem?_eq_none (by omega), List.getElem?_eq_none (by rw [bytesOf_length]; omega)]
theorem keys_arg {H : Type} {enc : TypeId × Value → H} {W : World} {base : Nat} {v : Value} {d : DataW H} {p : List MemPlace}
    (hok : Value.okWide Try.prog W .any base 80 v) (h : DataW.Trod enc Try.prog W 0 (fun _ => true) true 80 v d p) :
    ∃ ao n cap, ∃ ps : List Ky, v = .slice ao n cap ∧ KeysAt W ao n cap ps := by
  obtain ⟨ao, n, cap, rfl⟩ := okWide_slice Try.underlying80 hok
  obtain ⟨fuel, hf⟩ := h
  have ce : Try.prog.cellsOf 23 = 32 := by kernel_rfl
  rcases open_slice Try.underlying80 hf with ⟨hcs, hx⟩ | ⟨a, len', cap', m, n', D, Pl, hcs, hb, hl, hm, hmm, hx, hel⟩
  · simp [Value.cells] at hcs
    obtain ⟨rfl, rfl, rfl⟩ := hcs
    exact ⟨none, 0, 0, [], rfl, rfl, Nat.le_refl _, by omega, 0, 0, fun h => absurd h (Nat.lt_irrefl _), fun j u hu => by simp [keysOf] at hu⟩
  · simp [Value.cells] at hcs
    obtain ⟨rfl, rfl, rfl⟩ := hcs
    simp only [if_true] at hmm
    subst hmm
    unfold maxLen at hm
    rw [ce] at hel
    have hk : ∀ i, i < n → ∃ f : Ky, ∀ j u, (bytesOf 32 f)[j]? = some u → W.cell? ((a.add (i * 32)).add j) = some u := fun i hi => by
      obtain ⟨cs', h1, h2⟩ := hel i (by omega)
      obtain ⟨_, hlen, hcell⟩ := World.cells?_some h1
      obtain ⟨f, rfl⟩ := key_cells hlen h2
      refine ⟨f, fun j u hu => ?_⟩
      have hj : j < 32 := by
        rcases Nat.lt_or_ge j 32 with h | h
        · exact h
        · rw [List.getElem?_eq_none (by rw [bytesOf_length]; exact h)] at hu; cases hu
      exact (hcell j hj).trans hu
    rcases Nat.eq_zero_or_pos n with rfl | hpos
    · exact ⟨_, 0, _, [], rfl, rfl, hl, by omega, 0, 0, fun h => absurd h (Nat.lt_irrefl _), fun j u hu => by simp [keysOf] at hu⟩
    · obtain ⟨b, off, spot⟩ := a
      have hspot : spot = none := by
        obtain ⟨f, hf0⟩ := hk 0 hpos
        have := hf0 0 _ (bytesOf_get f (by omega))
        simpa [Addr.add] using World.cell?_spot this
      subst hspot
      have hch : ∃ F : Nat → Ky, ∀ i, i < n → ∀ j u, (bytesOf 32 (F i))[j]? = some u → W.cell? (((⟨b, off, none⟩ : Addr).add (i * 32)).add j) = some u :=
        ⟨fun i => if h : i < n then (hk i h).choose else fun _ => 0, fun i hi => by simp only [dif_pos hi]; exact (hk i hi).choose_spec⟩
      obtain ⟨F, hF⟩ := hch
      refine ⟨_, n, _, (List.range n).map F, rfl, by simp, hl, by omega, b, off, fun _ => rfl, fun j u hu => ?_⟩
      rw [keysOf_get] at hu
      obtain ⟨kk, h1, h2⟩ := Option.bind_eq_some_iff.1 hu
      rw [List.getElem?_map] at h1
      obtain ⟨r, h3, rfl⟩ := Option.map_eq_some_iff.1 h1
      obtain ⟨h4, h5⟩ := List.getElem?_eq_some_iff.1 h3
      rw [List.getElem_range] at h5
      rw [List.length_range] at h4
      subst h5
      have := hF _ h4 _ _ h2
      rw [add_flat, add_flat] at this
      rw [show off + j = off + j / 32 * 32 + j % 32 by omega]
      exact this
end Go.Proofs.Ytnhggaghidbniaa
