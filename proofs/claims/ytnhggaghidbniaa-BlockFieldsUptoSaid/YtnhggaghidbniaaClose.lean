/- What every statement of this seat closes by: a call that returns true and leaves all old memory as it was meets the row. -/
import Derived.Test.YtnhggaghidbniaaRows
import Derived.WalkKit
import Derived.ProofKit
import Derived.OpenShut
import Derived.JoinedCond
namespace Go.Proofs.Ytnhggaghidbniaa
open Go.ChangeShapes Go.WideShapes Go.ChangeAt Go.RowKit
set_option linter.unusedVariables false
set_option maxRecDepth 100000

theorem own : ownKnob Try.prog.godebug = none := by kernel_rfl
theorem laidOut : laidOutB Try.prog = true := by kernel_rfl

theorem trodAll_below {H : Type} {enc : TypeId × Value → H} {P : Program} (hl : laidOutB P = true) {W W' : World} (hb : Below W.heap.size W W') :
    ∀ (ts : List TypeId) (vs : List Value) (ds : List (DataW H)) (ps : List MemPlace), (∀ t ∈ ts, P.readableRec t = true ∧ t < P.types.size) →
      DataW.TrodAll enc P W 0 (fun _ => true) true ts vs ds ps → (∀ x ∈ ps, x.block < W.heap.size) →
      DataW.TrodAll enc P W' 0 (fun b => decide (b < W.heap.size)) true ts vs ds ps
  | [], vs, ds, ps, _, h, _ => by
    cases vs <;> cases ds <;> simp_all [DataW.TrodAll]
  | t :: ts, vs, ds, ps, ht, h, hp => by
    obtain ⟨v, vs', d, ds', p, q, rfl, rfl, rfl, h0, r⟩ := trodAll_cons h
    exact trodAll_cons_mk (Below.trod hl (ht t (by simp)).1 (ht t (by simp)).2 h0 hb (fun x hx => hp x (by simp [hx])))
      (trodAll_below hl hb ts vs' ds' q (fun u hu => ht u (by simp [hu])) r (fun x hx => hp x (by simp [hx])))

/-- the row's end: true is returned, and below the heap's old size nothing has turned -/
theorem law_post {H : Type} {enc : TypeId × Value → H} {f : Func} {s : ChangeSpec} {W W' : World} {args : Array Value} {ds gs : List (DataW H)} {before : List MemPlace} {tb : TypeId}
    (hparams : ∀ t ∈ f.params.toList, Try.prog.readableRec t = true ∧ t < Try.prog.types.size) (hvars : s.vars = [])
    (hres : f.resultTypes = #[tb]) (hbool : Try.prog.underlying tb = some .bool)
    (hW : DataW.Whole enc Try.prog f.params.toList s.vars false W args.toList ds gs before)
    (h1 : (s.fn H (ds ++ gs)).results = [.lit (.bool true)]) (h2 : (s.fn H (ds ++ gs)).args = ds) (h3 : (s.fn H (ds ++ gs)).vars = [])
    (hb : Below W.heap.size W W') :
    s.post enc Try.prog f false true false false W args (.bool true) W' := by
  have hlt : ∀ p ∈ before, p.block < W.heap.size := fun p hp => hW.lt p hp
  have hW' := hW
  obtain ⟨p, q, hA, hV, rfl, hfz, hnd⟩ := hW
  rw [hvars] at hV
  obtain ⟨rfl, rfl⟩ := trodVars_none hV
  refine ⟨ds, [], p ++ [], [], p, [], hW', ?_, ?_, ?_, hb.frame _, fun h => by cases h⟩
  · rw [h1, hres]
    exact trodAll_mk1 (shut_bool hbool true)
  · rw [h2]
    exact trodAll_below laidOut hb _ _ _ _ hparams hA (fun x hx => hlt x (by simp [hx]))
  · rw [h3, hvars]
    simp [DataW.TrodVars]

set_option maxRecDepth 100000 in
/-- an argument that is a slice of integers: its shape and its cells -/
theorem slice_ints {H : Type} {enc : TypeId × Value → H} {W : World} {base : Nat} {t e : TypeId} {k : IntKind} {v : Value} {d : DataW H} {p : List MemPlace}
    (ht : Try.prog.underlying t = some (.slice e)) (he : Try.prog.underlying e = some (.int k)) (hc : Try.prog.cellsOf e = 1)
    (hok : Value.okWide Try.prog W .any base t v) (h : DataW.Trod enc Try.prog W 0 (fun _ => true) true t v d p) :
    ∃ ao n cap b off, ∃ g : Nat → Int, v = .slice ao n cap ∧ n ≤ 9223372036854775807 ∧ (0 < n → ao = some ⟨b, off, none⟩) ∧ (∀ j, j < n → W.cell? ⟨b, off + j, none⟩ = some (.int k (g j))) ∧
      (∀ j, j < n → (Lit.int k (g j)).wf = true) ∧ (∃ sp, d = .slice (lits k ((List.range n).map g)) sp ∨ (d = .nil ∧ n = 0)) := by
  obtain ⟨ao, n, cap, rfl⟩ := okWide_slice ht hok
  obtain ⟨fuel, hf⟩ := h
  rcases open_ints ht he hc hf with ⟨hcs, hx⟩ | ⟨a, len', cap', zs, hcs, _, hl, hm, hz, hx, hcell, hwz⟩
  · simp [Value.cells] at hcs
    obtain ⟨rfl, rfl, rfl⟩ := hcs
    exact ⟨none, 0, 0, 0, 0, fun _ => 0, rfl, by omega, by omega, by omega, by omega, [], .inr ⟨by simpa using congrArg Prod.fst hx, rfl⟩⟩
  · simp [Value.cells] at hcs
    obtain ⟨rfl, rfl, rfl⟩ := hcs
    simp at hz
    have hd : d = .slice (lits k (zs.take n)) (lits k (zs.drop n)) := by simpa using congrArg Prod.fst hx
    have e1 : zs.take n = (List.range n).map (fun j => zs.getD j 0) := by
      refine List.ext_getElem (by simp; omega) ?_
      intro i h1 h2
      simp at h1 h2
      simp [List.getD_eq_getElem?_getD, show i < zs.length by omega]
    rw [e1] at hd
    unfold maxLen at hm
    by_cases h0 : n = 0
    · subst h0
      exact ⟨some a, 0, cap, 0, 0, fun j => zs.getD j 0, rfl, by omega, by omega, by omega, by omega, _, .inl hd⟩
    · obtain ⟨b, off, rfl, hcc⟩ := ints_at hcell (by omega)
      refine ⟨_, n, cap, b, off, fun j => zs.getD j 0, rfl, by omega, fun _ => rfl, fun j hj => hcc j (by omega), ?_, _, .inl hd⟩
      intro j hj
      refine hwz _ ?_
      have hjl : j < zs.length := by omega
      simp [List.getD_eq_getElem?_getD, hjl]
end Go.Proofs.Ytnhggaghidbniaa
