/- The linked list's methods, said of the elements that it stands for. -/
import Derived.Test.YtegdchlbmjokmaaRef7a
namespace Go.Proofs.Ytegdchlbmjokmaa
open Go.RowKit
set_option linter.unusedVariables false
open Lnk

/-- at D lies a list that stands for r -/
def Lis (w : World) (B D : Nat) (rv : Value) (r : R) : Prop := ∃ c, ListAt w B D rv c ∧ Rep c r
theorem Lis.only {S : Nat → Prop} {w w' : World} {B D : Nat} {rv : Value} {r : R} (h : Lis w B D rv r) (ho : Only S w w') (hs : ∀ k, foot D rv k → ¬ S k) : Lis w' B D rv r := by
  obtain ⟨c, h1, h2⟩ := h; exact ⟨c, h1.only ho hs, h2⟩
theorem Lis.below {w w' : World} {B D : Nat} {rv : Value} {r : R} (h : Lis w B D rv r) (hb : Below w.heap.size w w') : Lis w' B D rv r :=
  h.only (Only.of_below (fun _ => False) hb) (fun _ _ h => h)
theorem Lis.ge {w : World} {B D : Nat} {rv : Value} {r : R} (h : Lis w B D rv r) : ∀ k, foot D rv k → B ≤ k := by obtain ⟨c, h1, _⟩ := h; exact h1.ge
theorem Lis.num {w w' : World} {B D D' n N : Nat} {rv : Value} {r : R} (h : Lis w B D rv r) (hn : NumAt w B D' n N) (ho : Only (fun k => k = D') w w') : Lis w' B D rv r := by
  obtain ⟨c, h1, h2⟩ := h; exact ⟨c, h1.num hn ho, h2⟩
theorem NumAt.lis {w w' : World} {B D D' n N : Nat} {rv : Value} {r : R} (h : NumAt w B D' n N) (hl : Lis w B D rv r) (hB : B ≤ w.heap.size) (ho : Only (foot D rv) w w') : NumAt w' B D' n N := by
  obtain ⟨c, h1, _⟩ := hl; exact h.step h1 hB ho
theorem Lis.row_ne {w : World} {B D : Nat} {rv : Value} {r : R} (hl : Lis w B D rv r) {base size n : Nat} {e : TypeId} {v : Value} {xs : List Value} (h : w.ownsRow base e size v n xs) (h1 : e ≠ 63) (h2 : e ≠ 65) {w' : World} (ho : Only (foot D rv) w w') : w'.ownsRow base e size v n xs := by
  obtain ⟨c, hc, _⟩ := hl
  refine owns_only h ho fun g hg hf => ?_
  rcases hf with rfl | hf
  · exact own_blk_ne h hc.blk h1 hg
  · exact owns_ne h hc.row h2 hg hf
theorem Lis.blk_ne {w : World} {B D : Nat} {rv : Value} {r : R} (hl : Lis w B D rv r) {g : Nat} {t : TypeId} {cs : Array Value} (h : Blk w g t cs) (h1 : t ≠ 63) (h2 : t ≠ 65) {w' : World} (ho : Only (foot D rv) w w') : Blk w' g t cs := by
  obtain ⟨c, hc, _⟩ := hl
  refine h.only ho fun hf => ?_
  rcases hf with rfl | hf
  · exact absurd rfl (Blk.ne_ h hc.blk h1)
  · exact own_blk_ne hc.row h (Ne.symm h2) hf

/-- what a step of the list leaves -/
def LPost (w : World) (B D : Nat) (rv : Value) (r' : R) (v : Value) (e : Ending) (w' : World) : Prop := e = .returned v ∧ Only (foot D rv) w w' ∧ ∃ rv', Lis w' B D rv' r'
theorem lnewR_any (w : World) (B : Nat) (hB : B ≤ w.heap.size) : Calls Try.prog 25 #[] w fun e w' => e = .returned (.pointer (some ⟨w.heap.size, 0, none⟩)) ∧ Below w.heap.size w w' ∧ w'.heap.size = w.heap.size + 1 ∧ Lis w' B w.heap.size (.slice none 0 0) emptyR := by
  refine (lnew_any w).mono ?_
  rintro e w' ⟨h1, h2, h3, h4⟩
  exact ⟨h1, h2, h3, emptyL, ⟨hB, h4.blk, World.ownsRow_nil _ _ _ _⟩, rep_empty _ _ _ _⟩

theorem lpb_any (w : World) (B D : Nat) (rv : Value) (r : R) (v : Int) (h : Lis w B D rv r) (hB : B ≤ w.heap.size) (hU : r.U ≤ 1048576) (hE : r.E.length ≤ 1048576) :
    Calls Try.prog 29 #[.pointer (some ⟨D, 0, none⟩), .int .i64 v] w (LPost w B D rv (pushBackR r v) (.int .i64 (slotR r : Int))) := by
  obtain ⟨c, h1, h2⟩ := h
  have := pushBack_any w B D rv c v h1 hB (rep_fine h2 hU hE)
  rw [h2.slot] at this
  refine this.mono ?_
  rintro e w' ⟨h3, h4, rv', h5, _⟩
  exact ⟨h3, h4, rv', _, h5, rep_pushBack h2 v⟩

theorem rep_has_no {c : LS} {r : R} (h : Rep c r) {s : Int} (hp : placeR r.E s = none) : hasB c s = false := by
  have hno := placeR_not hp
  cases hb : hasB c s with
  | false => rfl
  | true =>
    unfold hasB at hb
    simp only [Bool.and_eq_true, decide_eq_true_eq] at hb
    obtain ⟨h0, h1, h2⟩ := hb
    obtain ⟨i, x, hi, hx⟩ := rep_used h (s := s.toNat) (by omega) h2
    exact absurd (by omega) (hno i x hi)
theorem placeR_ex {E : List (Nat × Int)} {s : Int} {i : Nat} (h : placeR E s = some i) : ∃ x, E[i]? = some x ∧ s = (x.1 : Int) ∧ E.getD i (0, 0) = x := by
  obtain ⟨x, h1, h2⟩ := placeR_get h
  exact ⟨x, h1, h2.symm, by rw [List.getD_eq_getElem?_getD, h1]; rfl⟩

/-- the list without the element with a slot -/
def dropR (r : R) (s : Int) : R := match placeR r.E s with | none => r | some i => removeR r i s.toNat
/-- the list with the element with a slot at the end -/
def turnR (r : R) (s : Int) : R := match placeR r.E s with | none => r | some i => moveR r i (r.E.getD i (0, 0))
theorem lrem_any (w : World) (B D : Nat) (rv : Value) (r : R) (s : Int) (h : Lis w B D rv r) (hB : B ≤ w.heap.size) (hE : r.E.length ≤ 1048576) :
    Calls Try.prog 33 #[.pointer (some ⟨D, 0, none⟩), .int .i64 s] w (LPost w B D rv (dropR r s) (.bool (placeR r.E s).isSome)) := by
  obtain ⟨c, h1, h2⟩ := h
  cases hp : placeR r.E s with
  | none =>
    refine (lremove_no w B D rv c s h1 (rep_has_no h2 hp)).mono ?_
    rintro e w' ⟨h3, rfl⟩
    have e : dropR r s = r := by unfold dropR; rw [hp]
    rw [e]
    exact ⟨h3, Only.refl _ _, rv, c, h1, h2⟩
  | some i =>
    obtain ⟨x, hx, rfl, _⟩ := placeR_ex hp
    refine (lremove_any w B D rv c x.1 h1 hB (rep_slot h2 hx hE)).mono ?_
    rintro e w' ⟨h3, h4, h5⟩
    have e : dropR r (x.1 : Int) = removeR r i x.1 := by unfold dropR; rw [hp]; rfl
    rw [e]
    exact ⟨h3, h4, rv, _, h5, rep_remove h2 hx⟩
theorem lmov_any (w : World) (B D : Nat) (rv : Value) (r : R) (s : Int) (h : Lis w B D rv r) (hB : B ≤ w.heap.size) (hE : r.E.length ≤ 1048576) :
    Calls Try.prog 26 #[.pointer (some ⟨D, 0, none⟩), .int .i64 s] w (LPost w B D rv (turnR r s) (.bool (placeR r.E s).isSome)) := by
  obtain ⟨c, h1, h2⟩ := h
  cases hp : placeR r.E s with
  | none =>
    refine (lmove_no w B D rv c s h1 (rep_has_no h2 hp)).mono ?_
    rintro e w' ⟨h3, rfl⟩
    have e : turnR r s = r := by unfold turnR; rw [hp]
    rw [e]
    exact ⟨h3, Only.refl _ _, rv, c, h1, h2⟩
  | some i =>
    obtain ⟨x, hx, rfl, hg⟩ := placeR_ex hp
    refine (lmove_any w B D rv c x.1 h1 hB (rep_slot h2 hx hE)).mono ?_
    rintro e w' ⟨h3, h4, h5⟩
    have e : turnR r (x.1 : Int) = moveR r i x := by unfold turnR; rw [hp]; show moveR r i _ = _; rw [hg]
    rw [e]
    exact ⟨h3, h4, rv, _, h5, rep_move h2 hx⟩
/-- the number in a slot -/
def valueR (E : List (Nat × Int)) (s : Int) : Int := match placeR E s with | none => 0 | some i => (E.getD i (0, 0)).2
theorem lval_any (w : World) (B D : Nat) (rv : Value) (r : R) (s : Int) (h : Lis w B D rv r) :
    Calls Try.prog 27 #[.pointer (some ⟨D, 0, none⟩), .int .i64 s] w fun e w' => e = .returned (.tuple #[.int .i64 (valueR r.E s), .bool (placeR r.E s).isSome]) ∧ w = w' := by
  obtain ⟨c, h1, h2⟩ := h
  cases hp : placeR r.E s with
  | none =>
    have e : valueR r.E s = 0 := by unfold valueR; rw [hp]
    rw [e]
    exact lvalue_no w B D rv c s h1 (rep_has_no h2 hp)
  | some i =>
    obtain ⟨x, hx, rfl, hg⟩ := placeR_ex hp
    have e : valueR r.E (x.1 : Int) = c.val x.1 := by unfold valueR; rw [hp]; show (r.E.getD i (0, 0)).2 = _; rw [hg]; exact (h2.ch.el i x hx).1.symm
    rw [e]
    exact lvalue_yes w B D rv c x.1 h1 (by rw [h2.n]; exact (h2.el i x hx).1) (h2.el i x hx).2
theorem lfst_any (w : World) (B D : Nat) (rv : Value) (r : R) (h : Lis w B D rv r) :
    Calls Try.prog 28 #[.pointer (some ⟨D, 0, none⟩)] w fun e w' => e = .returned (.int .i64 (oi (slotAt r.E 0))) ∧ w = w' := by
  obtain ⟨c, h1, h2⟩ := h
  rw [← h2.ch.fi]
  exact lfirst_any w B D rv c h1
theorem lvals_any (w : World) (B D : Nat) (rv : Value) (r : R) (h : Lis w B D rv r) (hB : B ≤ w.heap.size) (hE : r.E.length ≤ 1048576) :
    Calls Try.prog 32 #[.pointer (some ⟨D, 0, none⟩)] w (ValuesPost w (r.E.map Prod.snd)) := by
  obtain ⟨c, h1, h2⟩ := h
  exact lvalues_any w B D rv c r h1 h2 hB hE
end Go.Proofs.Ytegdchlbmjokmaa
