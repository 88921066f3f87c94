/- A region that draws its order, loads, and stores into the cells that it loaded: a condition that holds until the first of some operations (the stores) came up. -/
import Derived.Deep.RegionHeld
namespace Go.Proofs.Ytnihkjhejjeepaa
set_option linter.unusedVariables false

section
variable {P : Program} {ops : Array Oper} {Q : Exit → Act → World → Prop} {md : Region.Mode} {S : World → Prop} {B : List Nat}

/-- none of B has come up -/
def NoneUp (B : List Nat) (listed : Array Bool) : Prop := ∀ b ∈ B, listed.getD b false = false
def wpAnyL (P : Program) (md : Region.Mode) (ops : Array Oper) (Q : Exit → Act → World → Prop) (S : World → Prop) (B : List Nat) : Nat → Array Bool → Act → World → Prop
  | 0, listed, a, w => Region.ready md ops listed = [] ∧ Q .normal a w
  | fuel + 1, listed, a, w =>
    (Region.ready md ops listed = [] → Q .normal a w) ∧
    ∀ i ∈ Region.ready md ops listed, wpOp P ops Q i (fun a' w' => (NoneUp B (listed.setIfInBounds i true) → S w') ∧ wpAnyL P md ops Q S B fuel (listed.setIfInBounds i true) a' w') a w
theorem wpAny_of_heldL : ∀ (fuel : Nat) (listed : Array Bool) (a : Act) (w : World), wpAnyL P md ops Q S B fuel listed a w → wpAny P md ops Q fuel listed a w
  | 0, _, _, _, h => h
  | fuel + 1, _, _, _, h => ⟨h.1, fun i hi => wpOp_mono (fun a' w' h' => wpAny_of_heldL fuel _ a' w' h'.2) (h.2 i hi)⟩
theorem NoneUp.set {listed : Array Bool} {i : Nat} (h : NoneUp B listed) (hi : i ∉ B) : NoneUp B (listed.setIfInBounds i true) := fun b hb => by
  rw [getD_set_ne false (fun e => hi (by rw [e]; exact hb))]
  exact h b hb
theorem NoneUp.back {listed : Array Bool} {i : Nat} (h : NoneUp B (listed.setIfInBounds i true)) : NoneUp B listed := fun b hb => by
  have h1 := h b hb
  cases h2 : listed.getD b false with
  | false => rfl
  | true => rw [getD_set_true h2] at h1; cases h1
/-- an operation that yields its value in every world that meets S, and on which each of B waits, may be taken first; and one that yields it in whatever world -/
theorem wpAnyL_first {i : Nat} {oi : Oper} {v : Value} (hi : ops[i]? = some oi) (hsel : ∀ (j : Nat) (o : Oper) cs b, ops[j]? = some o → o.op ≠ .select cs b)
    (hQ : ∀ c a w, Q (.panic c) (a.put oi.dst v) w → Q (.panic c) a w) (hiB : i ∉ B) (S' : World → Prop)
    (hw : (∀ w, S' w) ∨ ((∀ w, S w → S' w) ∧ ∀ b ∈ B, ∀ ob, ops[b]? = some ob → ∃ e ∈ ob.after, Region.binds md e = true ∧ e.on = i)) :
    ∀ (fuel : Nat) (listed : Array Bool) (a : Act) (w : World),
      (∀ j oj, ops[j]? = some oj → j ≠ i → listed.getD j true = false → (∀ e ∈ oj.after, Region.binds md e = true → e.on ≠ i) → oi.apart ops oj = true) →
      i ∈ Region.ready md ops listed → YieldsIf P ops S' oi v a → ((∀ w, S' w) ∨ NoneUp B listed) → (NoneUp B listed → S w) →
      wpAnyL P md ops Q S B fuel (listed.setIfInBounds i true) (a.put oi.dst v) w → wpAnyL P md ops Q S B (fuel + 1) listed a w := by
  have hS' : ∀ (listed : Array Bool) w, ((∀ w, S' w) ∨ NoneUp B listed) → (NoneUp B listed → S w) → S' w := fun listed w h1 h2 => by
    rcases h1 with h1 | h1
    · exact h1 w
    · rcases hw with h3 | h3
      · exact h3 w
      · exact h3.1 w (h2 h1)
  intro fuel
  induction fuel with
  | zero =>
    intro listed a w _ hr hy hN hS H
    refine ⟨fun h => (by rw [h] at hr; cases hr), fun j hj => ?_⟩
    by_cases hji : j = i
    · subst hji; exact hy.wpOp hi (hS' _ w hN hS) ⟨fun h => hS h.back, H⟩
    · have := ready_mono hj hji
      rw [H.1] at this
      cases this
  | succ fuel ih =>
    intro listed a w hfree hr hy hN hS H
    refine ⟨fun h => (by rw [h] at hr; cases hr), fun j hj => ?_⟩
    by_cases hji : j = i
    · subst hji; exact hy.wpOp hi (hS' _ w hN hS) ⟨fun h => hS h.back, H⟩
    · have h1 := H.2 j (ready_mono hj hji)
      obtain ⟨hjun, oj, hoj, hall⟩ := mem_ready.1 hj
      have hnot : ∀ e ∈ oj.after, Region.binds md e = true → e.on ≠ i := fun e he hb heq => by
        have h1 := hall e he hb
        have h0 := (mem_ready.1 hr).1
        rw [heq] at h1
        rcases Nat.lt_or_ge i listed.size with h' | h'
        · simp [h'] at h0 h1; rw [h0] at h1; cases h1
        · simp [Array.getElem?_eq_none h'] at h1
      have h2 := wpOp_putIf hoj (hfree j oj hoj hji hjun hnot) (fun cs b => hsel i oi cs b hi) (fun cs b => hsel j oj cs b hoj) hQ hy h1
      have hfree' : ∀ k ok, ops[k]? = some ok → k ≠ i → (listed.setIfInBounds j true).getD k true = false →
          (∀ e ∈ ok.after, Region.binds md e = true → e.on ≠ i) → oi.apart ops ok = true := fun k ok hk hki hun hno => by
        refine hfree k ok hk hki ?_ hno
        by_cases hjk : j = k
        · subst hjk; exact hjun
        · rw [getD_set_ne true hjk] at hun; exact hun
      have hN' : (∀ w, S' w) ∨ NoneUp B (listed.setIfInBounds j true) := by
        rcases hN with h3 | h3
        · exact .inl h3
        · rcases hw with h4 | h4
          · exact .inl h4
          · refine .inr (h3.set (fun hjB => ?_))
            obtain ⟨e, he, hb, ho⟩ := h4.2 j hjB oj hoj
            exact hnot e he hb ho
      refine wpOp_mono (fun a' w' h3 => ?_) h2
      have h4 : NoneUp B (listed.setIfInBounds j true) → S w' := fun h => h3.2.1 (by
        rw [Array.setIfInBounds_comm _ _ (Ne.symm hji)]
        exact h.set hiB)
      refine ⟨h4, ih (listed.setIfInBounds j true) a' w' hfree' (ready_mono hr (Ne.symm hji)) h3.1 hN' h4 ?_⟩
      rw [Array.setIfInBounds_comm _ _ hji]
      exact h3.2.2
def waitsB (md : Region.Mode) (ops : Array Oper) (B : List Nat) (i : Nat) : Bool := B.all fun b => match ops[b]? with | some ob => ob.after.any (fun e => Region.binds md e && e.on == i) | none => true
def noneUpB (B : List Nat) (listed : Array Bool) : Bool := B.all fun b => listed.getD b false == false
theorem noneUp_of {listed : Array Bool} (h : noneUpB B listed = true) : NoneUp B listed := fun b hb => by
  have := List.all_eq_true.1 h b hb
  simpa using this
theorem noneUp_not {listed : Array Bool} (h : noneUpB B listed = false) : ¬ NoneUp B listed := fun hn => by
  have : noneUpB B listed = true := List.all_eq_true.2 fun b hb => by simp [hn b hb]
  rw [h] at this
  cases this
/-- a load: S holds as yet -/
theorem wpAnyL_take {i : Nat} {oi : Oper} {v : Value} {fuel : Nat} {listed : Array Bool} {a : Act} {w : World} (hi : ops[i]? = some oi)
    (hs : Region.noSelect ops = true) (hf : Region.free md ops listed i = true) (hr : (Region.ready md ops listed).contains i = true)
    (hQ : ∀ c a w, Q (.panic c) (a.put oi.dst v) w → Q (.panic c) a w) (hB : B.contains i = false) (hwt : waitsB md ops B i = true) (hN : noneUpB B listed = true) (hy : YieldsIf P ops S oi v a) (hS : NoneUp B listed → S w)
    (h : wpAnyL P md ops Q S B fuel (listed.setIfInBounds i true) (a.put oi.dst v) w) : wpAnyL P md ops Q S B (fuel + 1) listed a w :=
  wpAnyL_first hi (Region.noSelect_spec hs) hQ (by simpa using hB) S (.inr ⟨fun _ h => h, fun b hb ob ho => by
    have h1 := List.all_eq_true.1 hwt b hb
    simp only [ho, Array.any_eq_true'] at h1
    obtain ⟨e, he, h2⟩ := h1
    simp only [Bool.and_eq_true, beq_iff_eq] at h2
    exact ⟨e, he, h2.1, h2.2⟩⟩) fuel listed a w (Region.free_spec hi hf) (by simpa using hr) hy (.inr (noneUp_of hN)) hS h
/-- what yields in whatever world -/
theorem wpAnyL_pure {i : Nat} {oi : Oper} {v : Value} {fuel : Nat} {listed : Array Bool} {a : Act} {w : World} (hi : ops[i]? = some oi)
    (hs : Region.noSelect ops = true) (hf : Region.free md ops listed i = true) (hr : (Region.ready md ops listed).contains i = true)
    (hQ : ∀ c a w, Q (.panic c) (a.put oi.dst v) w → Q (.panic c) a w) (hB : B.contains i = false) (hy : YieldsIf P ops (fun _ => True) oi v a) (hS : NoneUp B listed → S w)
    (h : wpAnyL P md ops Q S B fuel (listed.setIfInBounds i true) (a.put oi.dst v) w) : wpAnyL P md ops Q S B (fuel + 1) listed a w :=
  wpAnyL_first hi (Region.noSelect_spec hs) hQ (by simpa using hB) (fun _ => True) (.inl fun _ => trivial) fuel listed a w (Region.free_spec hi hf) (by simpa using hr) hy (.inl fun _ => trivial) hS h
theorem wpAnyL_done {listed : Array Bool} {a : Act} {w : World} (hr : Region.ready md ops listed = []) (h : Q .normal a w) :
    ∀ fuel, wpAnyL P md ops Q S B fuel listed a w
  | 0 => ⟨hr, h⟩
  | _ + 1 => ⟨fun _ => h, by rw [hr]; simp⟩
def AllReadyL (P : Program) (md : Region.Mode) (ops : Array Oper) (Q : Exit → Act → World → Prop) (S : World → Prop) (B : List Nat) (fuel : Nat) (listed : Array Bool) (a : Act) (w : World) (rs : List Nat) : Prop :=
  ∀ i ∈ rs, wpOp P ops Q i (fun a' w' => (NoneUp B (listed.setIfInBounds i true) → S w') ∧ wpAnyL P md ops Q S B fuel (listed.setIfInBounds i true) a' w') a w
theorem AllReadyL.nil {fuel : Nat} {listed : Array Bool} {a : Act} {w : World} : AllReadyL P md ops Q S B fuel listed a w [] := fun _ h => by cases h
theorem AllReadyL.cons {fuel : Nat} {listed : Array Bool} {a : Act} {w : World} {i : Nat} {o : Oper} {rs : List Nat} (ho : ops[i]? = some o)
    (h : ∀ K' : Act → World → Prop, Shut (∀ a w, (NoneUp B (listed.setIfInBounds i true) → S w) → ((NoneUp B (listed.setIfInBounds i true) → S w) → wpAnyL P md ops Q S B fuel (listed.setIfInBounds i true) a w) → K' a w) → if Region.wanted o (yielded ops a.tmps) = true then Oper.wp P o a w K' Q else K' (a.put o.dst undef) w)
    (hs : AllReadyL P md ops Q S B fuel listed a w rs) : AllReadyL P md ops Q S B fuel listed a w (i :: rs) := fun j hj => by
  rcases List.mem_cons.1 hj with rfl | hj
  · exact wpOp_step ho (fun K' hK => h K' (fun a w hS hW => hK a w ⟨hS, hW hS⟩))
  · exact hs j hj
theorem wpAnyL_ready {rs : List Nat} {fuel : Nat} {listed : Array Bool} {a : Act} {w : World} (hr : Region.ready md ops listed = rs) (hne : rs ≠ [])
    (h : AllReadyL P md ops Q S B fuel listed a w rs) : wpAnyL P md ops Q S B (fuel + 1) listed a w :=
  ⟨fun h0 => absurd (hr ▸ h0) hne, hr ▸ h⟩
theorem wp_region_heldL_drew {id : Nat} {a : Act} {w : World} (hm : P.follows .mixedOrders = true) (hS : S w.drew)
    (h : S w.drew → wpAnyL P .any ops Q S B ops.size (Array.replicate ops.size false) a w.drew) : (Code.region id ops true).wp P Q a w :=
  wp_region_any hm (wpAny_of_heldL _ _ _ _ (h hS))
end
end Go.Proofs.Ytnihkjhejjeepaa
