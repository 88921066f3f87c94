/- The linked list in slots: its concrete steps, and the list of elements that it stands for; no program in sight. -/
import Derived.Test.YtegdchlbmjokmaaOwn
namespace Go.Proofs.Ytegdchlbmjokmaa.Lnk
set_option linter.unusedVariables false
set_option linter.unusedSimpArgs false

structure LS where
  n : Nat
  val : Nat → Int
  nx : Nat → Option Nat
  pv : Nat → Option Nat
  us : Nat → Bool
  fi : Option Nat
  la : Option Nat
  fr : Option Nat
  sz : Nat

def upd {α : Type} (f : Nat → α) (a : Nat) (x : α) (j : Nat) : α := if j = a then x else f j
theorem upd_same {α : Type} (f : Nat → α) (a : Nat) (x : α) : upd f a x a = x := by simp [upd]
theorem upd_other {α : Type} (f : Nat → α) {a j : Nat} (x : α) (h : j ≠ a) : upd f a x j = f j := by simp [upd, h]

def joinL (c : LS) (a b : Option Nat) : LS :=
  match a, b with
  | none, none => { c with fi := none, la := none }
  | none, some k => { c with fi := some k, pv := upd c.pv k none }
  | some k, none => { c with nx := upd c.nx k none, la := some k }
  | some k, some m => { c with nx := upd c.nx k (some m), pv := upd c.pv m (some k) }
def takeL (c : LS) (v : Int) : LS :=
  match c.fr with
  | none => { c with n := c.n + 1, sz := c.sz + 1, val := upd c.val c.n v, nx := upd c.nx c.n (some 0), pv := upd c.pv c.n (some 0), us := upd c.us c.n true }
  | some s => { c with sz := c.sz + 1, fr := c.nx s, val := upd c.val s v, nx := upd c.nx s (some 0), pv := upd c.pv s (some 0), us := upd c.us s true }
def slotL (c : LS) : Nat := c.fr.getD c.n
def pushBackL (c : LS) (v : Int) : LS := joinL (joinL (takeL c v) c.la (some (slotL c))) (some (slotL c)) none
def pushFrontL (c : LS) (v : Int) : LS := joinL (joinL (takeL c v) (some (slotL c)) c.fi) none (some (slotL c))
def freeL (c : LS) (s : Nat) : LS :=
  { c with nx := upd c.nx s c.fr, val := upd c.val s 0, pv := upd c.pv s (some 0), us := upd c.us s false, fr := some s, sz := c.sz - 1 }
def removeL (c : LS) (s : Nat) : LS := freeL (joinL c (c.pv s) (c.nx s)) s
def moveL (c : LS) (s : Nat) : LS :=
  joinL (joinL (joinL c (c.pv s) (c.nx s)) (joinL c (c.pv s) (c.nx s)).la (some s)) (some s) none

/-- the elements in order, the slots that were freed, and how many slots were ever used -/
structure R where
  E : List (Nat × Int)
  F : List Nat
  U : Nat

def slotAt (E : List (Nat × Int)) (i : Nat) : Option Nat := (E[i]?).map Prod.fst
def before (E : List (Nat × Int)) : Nat → Option Nat
  | 0 => none
  | i + 1 => slotAt E i
theorem before_succ (E : List (Nat × Int)) (i : Nat) : before E (i + 1) = slotAt E i := rfl
def lastAt (E : List (Nat × Int)) : Option Nat := before E E.length
def freeAt (F : List Nat) : Nat → Option Nat
  | 0 => none
  | j + 1 => F[j]?
theorem freeAt_succ (F : List Nat) (j : Nat) : freeAt F (j + 1) = F[j]? := rfl
def slotR (r : R) : Nat := (freeAt r.F r.F.length).getD r.U
def takeR (r : R) : R := { r with F := r.F.take (r.F.length - 1), U := if r.F.length = 0 then r.U + 1 else r.U }
def pushBackR (r : R) (v : Int) : R := { takeR r with E := r.E ++ [(slotR r, v)] }
def pushFrontR (r : R) (v : Int) : R := { takeR r with E := (slotR r, v) :: r.E }
def without (E : List (Nat × Int)) (i : Nat) : List (Nat × Int) := E.take i ++ E.drop (i + 1)
def removeR (r : R) (i s : Nat) : R := { r with E := without r.E i, F := r.F ++ [s] }
def moveR (r : R) (i : Nat) (x : Nat × Int) : R := { r with E := without r.E i ++ [x] }

theorem getD_without (E : List (Nat × Int)) (i j : Nat) (hi : i < E.length) : (without E i)[j]? = if j < i then E[j]? else E[j + 1]? := by
  unfold without
  rw [List.getElem?_append]
  simp only [List.length_take]
  rw [show min i E.length = i by omega]
  by_cases h : j < i
  · rw [if_pos h, if_pos h, List.getElem?_take]; simp [h]
  · rw [if_neg h, if_neg h, List.getElem?_drop]; congr 1; omega
theorem length_without (E : List (Nat × Int)) (i : Nat) (hi : i < E.length) : (without E i).length = E.length - 1 := by
  unfold without; simp; omega

/-- from the first element on the nodes stand one behind the other -/
structure Chain (c : LS) (E : List (Nat × Int)) : Prop where
  fi : c.fi = slotAt E 0
  la : c.la = lastAt E
  el : ∀ (i : Nat) (x : Nat × Int), E[i]? = some x → c.val x.1 = x.2 ∧ c.nx x.1 = slotAt E (i + 1) ∧ c.pv x.1 = before E i
  nd : ∀ (i j : Nat) (x y : Nat × Int), E[i]? = some x → E[j]? = some y → x.1 = y.1 → i = j

theorem lastAt_snoc (E : List (Nat × Int)) (x : Nat × Int) : lastAt (E ++ [x]) = some x.1 := by
  unfold lastAt before slotAt; simp

theorem slotAt_snoc (E : List (Nat × Int)) (x : Nat × Int) (i : Nat) : slotAt (E ++ [x]) i = if i = E.length then some x.1 else slotAt E i := by
  unfold slotAt
  rw [List.getElem?_append]
  by_cases h1 : i < E.length
  · rw [if_pos h1, if_neg (by omega)]
  · rw [if_neg h1]
    by_cases h2 : i = E.length
    · subst h2; simp
    · rw [if_neg h2, List.getElem?_eq_none (by simp; omega), List.getElem?_eq_none (by omega)]
theorem slotAt_none {E : List (Nat × Int)} {i : Nat} (h : E.length ≤ i) : slotAt E i = none := by
  unfold slotAt; rw [List.getElem?_eq_none h]; rfl
theorem slotAt_some {E : List (Nat × Int)} {i : Nat} (h : i < E.length) : slotAt E i = some (E[i]'h).1 := by
  unfold slotAt; rw [List.getElem?_eq_getElem h]; rfl
theorem before_snoc (E : List (Nat × Int)) (x : Nat × Int) (i : Nat) (h : i ≤ E.length) : before (E ++ [x]) i = before E i := by
  cases i with
  | zero => rfl
  | succ i => rw [before_succ, before_succ, slotAt_snoc, if_neg (by omega)]

theorem chain_back {c : LS} {E : List (Nat × Int)} (h : Chain c E) {s : Nat} (hs : ∀ (i : Nat) (x : Nat × Int), E[i]? = some x → x.1 ≠ s) :
    Chain (joinL (joinL c c.la (some s)) (some s) none) (E ++ [(s, c.val s)]) := by
  obtain ⟨h1, h2, h3, h4⟩ := h
  have hnd : ∀ (i j : Nat) (x y : Nat × Int), (E ++ [(s, c.val s)])[i]? = some x → (E ++ [(s, c.val s)])[j]? = some y → x.1 = y.1 → i = j := by
    intro i j x y hi hj e
    rw [List.getElem?_append] at hi hj
    have key : ∀ (i : Nat) (x : Nat × Int), ((E ++ [(s, c.val s)])[i]? = some x) → (i < E.length ∧ E[i]? = some x) ∨ (i = E.length ∧ x.1 = s) := by
      intro i x hi
      rw [List.getElem?_append] at hi
      split at hi
      · exact .inl ⟨‹_›, hi⟩
      · rename_i hge
        right
        rcases Nat.lt_or_ge (i - E.length) 1 with h | h
        · have e0 : i - E.length = 0 := by omega
          rw [e0] at hi
          simp at hi
          exact ⟨by omega, by rw [← hi]⟩
        · rw [List.getElem?_eq_none (by simp; omega)] at hi; cases hi
    rw [← List.getElem?_append] at hi hj
    rcases key i x hi with ⟨a1, a2⟩ | ⟨a1, a2⟩ <;> rcases key j y hj with ⟨b1, b2⟩ | ⟨b1, b2⟩
    · exact h4 i j x y a2 b2 e
    · exact absurd (e.trans b2) (hs i x a2)
    · exact absurd (e.symm.trans a2) (hs j y b2)
    · omega
  rcases Nat.eq_zero_or_pos E.length with h0 | h0
  · have hE : E = [] := List.eq_nil_of_length_eq_zero h0
    subst hE
    have hla : c.la = none := by rw [h2]; rfl
    rw [hla]
    refine ⟨rfl, rfl, ?_, hnd⟩
    intro i x hi
    rcases Nat.eq_zero_or_pos i with rfl | hp
    · simp at hi
      subst hi
      simp [joinL, upd, slotAt, before]
    · rw [List.getElem?_eq_none (by simp; omega)] at hi; cases hi
  · obtain ⟨x0, hx0⟩ : ∃ x0, E[E.length - 1]? = some x0 := ⟨E[E.length - 1]'(by omega), List.getElem?_eq_getElem _⟩
    have hla : c.la = some x0.1 := by
      rw [h2]
      unfold lastAt
      obtain ⟨m, hm⟩ : ∃ m, E.length = m + 1 := ⟨E.length - 1, by omega⟩
      rw [hm]
      rw [before_succ]; unfold slotAt
      rw [show E.length - 1 = m by omega] at hx0
      rw [hx0]
      rfl
    rw [hla]
    have hne := hs _ _ hx0
    refine ⟨?_, ?_, ?_, hnd⟩
    rotate_left
    · rw [lastAt_snoc]; rfl
    rotate_left
    · show c.fi = _
      rw [h1, slotAt_snoc, if_neg (by omega)]
    · intro i x hi
      rw [List.getElem?_append] at hi
      split at hi
      · rename_i hlt
        have hxs := hs i x hi
        obtain ⟨a1, a2, a3⟩ := h3 i x hi
        refine ⟨?_, ?_, ?_⟩
        · show c.val x.1 = x.2
          exact a1
        · show upd (upd c.nx x0.1 (some s)) s none x.1 = _
          rw [upd_other _ _ hxs, slotAt_snoc]
          by_cases hil : i + 1 = E.length
          · rw [if_pos hil]
            have : x = x0 := by
              have e : E.length - 1 = i := by omega
              rw [e, hi] at hx0
              injection hx0
            subst this
            exact upd_same _ _ _
          · rw [if_neg hil]
            have hne2 : x.1 ≠ x0.1 := fun e => by
              have := h4 _ _ _ _ hi hx0 e
              omega
            rw [upd_other _ _ hne2, a2]
        · show upd c.pv s (some x0.1) x.1 = _
          rw [upd_other _ _ hxs, a3, before_snoc _ _ _ (by omega)]
      · rename_i hge
        rcases Nat.lt_or_ge (i - E.length) 1 with h | h
        · have e0 : i - E.length = 0 := by omega
          rw [e0] at hi
          simp at hi
          subst hi
          have hi2 : i = E.length := by omega
          subst hi2
          refine ⟨rfl, ?_, ?_⟩
          · show upd (upd c.nx x0.1 (some s)) s none s = _
            rw [upd_same, slotAt_none (by simp)]
          · show upd c.pv s (some x0.1) s = _
            rw [upd_same]
            rw [before_snoc _ _ _ (Nat.le_refl _)]
            rw [← hla, h2]
            rfl
        · rw [List.getElem?_eq_none (by simp; omega)] at hi; cases hi

theorem chain_front {c : LS} {E : List (Nat × Int)} (h : Chain c E) {s : Nat} (hs : ∀ (i : Nat) (x : Nat × Int), E[i]? = some x → x.1 ≠ s) :
    Chain (joinL (joinL c (some s) c.fi) none (some s)) ((s, c.val s) :: E) := by
  obtain ⟨h1, h2, h3, h4⟩ := h
  have hnd : ∀ (i j : Nat) (x y : Nat × Int), ((s, c.val s) :: E)[i]? = some x → ((s, c.val s) :: E)[j]? = some y → x.1 = y.1 → i = j := by
    intro i j x y hi hj e
    cases i with
    | zero =>
      simp at hi
      cases j with
      | zero => rfl
      | succ j => simp at hj; exact absurd (e.symm.trans (by rw [← hi])) (hs j y hj)
    | succ i =>
      simp at hi
      cases j with
      | zero => simp at hj; exact absurd (e.trans (by rw [← hj])) (hs i x hi)
      | succ j =>
        simp at hj
        have := h4 i j x y hi hj e
        omega
  cases E with
  | nil =>
    have hfi : c.fi = none := by rw [h1]; rfl
    rw [hfi]
    refine ⟨rfl, rfl, ?_, hnd⟩
    intro i x hi
    cases i with
    | zero => simp at hi; subst hi; simp [joinL, upd, slotAt, before]
    | succ i => simp at hi
  | cons y E =>
    have hfi : c.fi = some y.1 := by rw [h1]; rfl
    rw [hfi]
    have hne := hs 0 y rfl
    refine ⟨rfl, ?_, ?_, hnd⟩
    · show c.la = _
      rw [h2]
      unfold lastAt
      simp [before, slotAt]
    · intro i x hi
      cases i with
      | zero =>
        simp at hi
        subst hi
        refine ⟨rfl, ?_, ?_⟩
        · show upd c.nx s (some y.1) s = _
          rw [upd_same]
          rfl
        · show upd (upd c.pv y.1 (some s)) s none s = _
          rw [upd_same]
          rfl
      | succ i =>
        have hi' : (y :: E)[i]? = some x := by simpa using hi
        have hxs := hs i x hi'
        obtain ⟨a1, a2, a3⟩ := h3 i x hi'
        refine ⟨a1, ?_, ?_⟩
        · show upd c.nx s (some y.1) x.1 = _
          rw [upd_other _ _ hxs, a2]
          simp [slotAt]
        · show upd (upd c.pv y.1 (some s)) s none x.1 = _
          rw [upd_other _ _ hxs]
          cases i with
          | zero =>
            simp at hi'
            subst hi'
            rw [upd_same]
            simp [before, slotAt]
          | succ i =>
            have hne2 : x.1 ≠ y.1 := fun e => by
              have := h4 (i + 1) 0 x y hi' rfl e
              omega
            rw [upd_other _ _ hne2, a3]
            simp [before, slotAt]

theorem before_without (E : List (Nat × Int)) (i j : Nat) (hi : i < E.length) : before (without E i) j = if j ≤ i then before E j else before E (j + 1) := by
  cases j with
  | zero => simp [before]
  | succ j =>
    rw [before_succ, before_succ, before_succ]; unfold slotAt
    rw [getD_without _ _ _ hi]
    by_cases h : j < i
    · rw [if_pos h, if_pos (by omega)]
    · rw [if_neg h, if_neg (by omega)]
theorem slotAt_without (E : List (Nat × Int)) (i j : Nat) (hi : i < E.length) : slotAt (without E i) j = if j < i then slotAt E j else slotAt E (j + 1) := by
  unfold slotAt
  rw [getD_without _ _ _ hi]
  split <;> rfl

theorem joinL_val (c : LS) (a b : Option Nat) : (joinL c a b).val = c.val := by cases a <;> cases b <;> rfl
theorem joinL_us (c : LS) (a b : Option Nat) : (joinL c a b).us = c.us := by cases a <;> cases b <;> rfl
theorem joinL_n (c : LS) (a b : Option Nat) : (joinL c a b).n = c.n := by cases a <;> cases b <;> rfl
theorem joinL_fr (c : LS) (a b : Option Nat) : (joinL c a b).fr = c.fr := by cases a <;> cases b <;> rfl
theorem joinL_sz (c : LS) (a b : Option Nat) : (joinL c a b).sz = c.sz := by cases a <;> cases b <;> rfl
theorem joinL_nx (c : LS) (a b : Option Nat) (j : Nat) : (joinL c a b).nx j = if a = some j then b else c.nx j := by
  cases a <;> cases b <;> simp [joinL, upd, eq_comm]
theorem joinL_pv (c : LS) (a b : Option Nat) (j : Nat) : (joinL c a b).pv j = if b = some j then a else c.pv j := by
  cases a <;> cases b <;> simp [joinL, upd, eq_comm]
theorem joinL_fi (c : LS) (a b : Option Nat) : (joinL c a b).fi = if a = none then b else c.fi := by cases a <;> cases b <;> simp [joinL]
theorem joinL_la (c : LS) (a b : Option Nat) : (joinL c a b).la = if b = none then a else c.la := by cases a <;> cases b <;> simp [joinL]

theorem chain_cut {c : LS} {E : List (Nat × Int)} (h : Chain c E) {i : Nat} {x : Nat × Int} (hi : E[i]? = some x) :
    Chain (joinL c (c.pv x.1) (c.nx x.1)) (without E i) := by
  obtain ⟨h1, h2, h3, h4⟩ := h
  have hil : i < E.length := by
    rcases Nat.lt_or_ge i E.length with h | h
    · exact h
    · rw [List.getElem?_eq_none h] at hi; cases hi
  obtain ⟨_, hn, hp⟩ := h3 i x hi
  rw [hn, hp]
  -- the slot of a place is that of no other place
  have hsl : ∀ (j : Nat) (y : Nat × Int), E[j]? = some y → ∀ k, slotAt E k = some y.1 → k = j := by
    intro j y hj k hk
    unfold slotAt at hk
    cases hk' : E[k]? with
    | none => rw [hk'] at hk; cases hk
    | some z =>
      rw [hk'] at hk
      injection hk with hk
      exact h4 k j z y hk' hj hk
  refine ⟨?_, ?_, ?_, ?_⟩
  · rw [joinL_fi, slotAt_without _ _ _ hil]
    cases i with
    | zero => simp [before]
    | succ i =>
      have : before E (i + 1) ≠ none := by rw [before_succ, slotAt_some (by omega)]; simp
      rw [if_neg this, if_pos (by omega), h1]
  · rw [joinL_la]
    unfold lastAt
    rw [length_without _ _ hil, before_without _ _ _ hil]
    by_cases hl : i + 1 = E.length
    · rw [if_pos (slotAt_none (by omega)), if_pos (by omega)]
      congr 1
      omega
    · rw [if_neg (by rw [slotAt_some (by omega)]; simp), if_neg (by omega), h2]
      unfold lastAt
      congr 1
      omega
  · intro j y hj
    rw [getD_without _ _ _ hil] at hj
    rw [joinL_val, joinL_nx, joinL_pv, slotAt_without _ _ _ hil, before_without _ _ _ hil]
    by_cases hji : j < i
    · rw [if_pos hji] at hj
      obtain ⟨a1, a2, a3⟩ := h3 j y hj
      have hp1 : slotAt E (i + 1) ≠ some y.1 := fun hb => by
        have := hsl j y hj (i + 1) hb
        omega
      refine ⟨a1, ?_, ?_⟩
      · by_cases e : j + 1 = i
        · subst e
          have hb : before E (j + 1) = some y.1 := by rw [before_succ]; unfold slotAt; rw [hj]; rfl
          rw [if_pos hb, if_neg (by omega)]
        · have hb : before E i ≠ some y.1 := fun hb => by
            cases i with
            | zero => cases hb
            | succ i =>
              have := hsl j y hj i hb
              omega
          rw [if_neg hb, if_pos (by omega), a2]
      · rw [if_neg hp1, if_pos (by omega), a3]
    · rw [if_neg hji] at hj
      obtain ⟨a1, a2, a3⟩ := h3 (j + 1) y hj
      have hb : before E i ≠ some y.1 := fun hb => by
        cases i with
        | zero => cases hb
        | succ i =>
          have := hsl (j + 1) y hj i hb
          omega
      refine ⟨a1, ?_, ?_⟩
      · rw [if_neg hb, if_neg (by omega), a2]
      · by_cases e : j = i
        · subst e
          have hb2 : slotAt E (j + 1) = some y.1 := by unfold slotAt; rw [hj]; rfl
          rw [if_pos hb2, if_pos (Nat.le_refl _)]
        · have hb2 : slotAt E (i + 1) ≠ some y.1 := fun hb => by
            have := hsl (j + 1) y hj (i + 1) hb
            omega
          rw [if_neg hb2, if_neg (by omega), a3]
  · intro j k y z hj hk e
    rw [getD_without _ _ _ hil] at hj hk
    by_cases ha : j < i <;> by_cases hb : k < i
    · rw [if_pos ha] at hj; rw [if_pos hb] at hk; exact h4 _ _ _ _ hj hk e
    · rw [if_pos ha] at hj; rw [if_neg hb] at hk; have := h4 _ _ _ _ hj hk e; omega
    · rw [if_neg ha] at hj; rw [if_pos hb] at hk; have := h4 _ _ _ _ hj hk e; omega
    · rw [if_neg ha] at hj; rw [if_neg hb] at hk; have := h4 _ _ _ _ hj hk e; omega

theorem Chain.congr {c c' : LS} {E : List (Nat × Int)} (h : Chain c E) (h1 : c'.fi = c.fi) (h2 : c'.la = c.la)
    (h3 : ∀ (i : Nat) (x : Nat × Int), E[i]? = some x → c'.val x.1 = c.val x.1 ∧ c'.nx x.1 = c.nx x.1 ∧ c'.pv x.1 = c.pv x.1) : Chain c' E := by
  obtain ⟨a1, a2, a3, a4⟩ := h
  refine ⟨h1.trans a1, h2.trans a2, fun i x hi => ?_, a4⟩
  obtain ⟨b1, b2, b3⟩ := a3 i x hi
  obtain ⟨d1, d2, d3⟩ := h3 i x hi
  exact ⟨d1.trans b1, d2.trans b2, d3.trans b3⟩

/-- the concrete list stands for r -/
structure Rep (c : LS) (r : R) : Prop where
  ch : Chain c r.E
  n : c.n = r.U
  sz : c.sz = r.E.length
  fr : c.fr = freeAt r.F r.F.length
  el : ∀ (i : Nat) (x : Nat × Int), r.E[i]? = some x → x.1 < r.U ∧ c.us x.1 = true
  ff : ∀ (j s : Nat), r.F[j]? = some s → s < r.U ∧ c.nx s = freeAt r.F j ∧ c.us s = false
  nf : ∀ (j k s : Nat), r.F[j]? = some s → r.F[k]? = some s → j = k
  cov : ∀ s, s < r.U → (∃ (i : Nat) (x : Nat × Int), r.E[i]? = some x ∧ x.1 = s) ∨ ∃ j : Nat, r.F[j]? = some s

theorem freeAt_take (F : List Nat) (k j : Nat) (h : j ≤ k) : freeAt (F.take k) j = freeAt F j := by
  cases j with
  | zero => rfl
  | succ j => rw [freeAt_succ, freeAt_succ]; rw [List.getElem?_take]; simp; omega
theorem freeAt_snoc (F : List Nat) (s j : Nat) (h : j ≤ F.length) : freeAt (F ++ [s]) j = freeAt F j := by
  cases j with
  | zero => rfl
  | succ j => rw [freeAt_succ, freeAt_succ]; rw [List.getElem?_append, if_pos (by omega)]

theorem Rep.slot {c : LS} {r : R} (h : Rep c r) : slotL c = slotR r := by
  unfold slotL slotR; rw [h.fr, h.n]
theorem Rep.fresh {c : LS} {r : R} (h : Rep c r) : ∀ (i : Nat) (x : Nat × Int), r.E[i]? = some x → x.1 ≠ slotR r := by
  intro i x hi
  obtain ⟨a1, a2⟩ := h.el i x hi
  unfold slotR
  rcases Nat.eq_zero_or_pos r.F.length with h0 | h0
  · rw [h0]
    simp [freeAt]
    omega
  · obtain ⟨m, hm⟩ : ∃ m, r.F.length = m + 1 := ⟨r.F.length - 1, by omega⟩
    rw [hm]
    rw [freeAt_succ]
    obtain ⟨s, hs⟩ : ∃ s, r.F[m]? = some s := ⟨r.F[m]'(by omega), List.getElem?_eq_getElem _⟩
    rw [hs]
    simp
    intro e
    have := (h.ff m s hs).2.2
    rw [← e, a2] at this
    cases this

theorem takeL_la (c : LS) (v : Int) : (takeL c v).la = c.la := by unfold takeL; cases c.fr <;> rfl
theorem takeL_fi (c : LS) (v : Int) : (takeL c v).fi = c.fi := by unfold takeL; cases c.fr <;> rfl
theorem takeL_sz (c : LS) (v : Int) : (takeL c v).sz = c.sz + 1 := by unfold takeL; cases c.fr <;> rfl
theorem takeL_val (c : LS) (v : Int) : (takeL c v).val = upd c.val (slotL c) v := by unfold takeL slotL; cases c.fr <;> rfl
theorem takeL_nx (c : LS) (v : Int) : (takeL c v).nx = upd c.nx (slotL c) (some 0) := by unfold takeL slotL; cases c.fr <;> rfl
theorem takeL_pv (c : LS) (v : Int) : (takeL c v).pv = upd c.pv (slotL c) (some 0) := by unfold takeL slotL; cases c.fr <;> rfl
theorem takeL_us (c : LS) (v : Int) : (takeL c v).us = upd c.us (slotL c) true := by unfold takeL slotL; cases c.fr <;> rfl

theorem Rep.take_chain {c : LS} {r : R} (h : Rep c r) (v : Int) : Chain (takeL c v) r.E := by
  refine h.ch.congr (takeL_fi c v) (takeL_la c v) fun i x hi => ?_
  have hne := h.fresh i x hi
  rw [takeL_val, takeL_nx, takeL_pv, h.slot]
  exact ⟨upd_other _ _ hne, upd_other _ _ hne, upd_other _ _ hne⟩

/-- what lies about the chain, when a slot was taken and put into it -/
theorem rep_taken {c d : LS} {r : R} {v : Int} {E' : List (Nat × Int)} (h : Rep c r) (hc : Chain d E') (hn : d.n = (takeL c v).n) (hsz : d.sz = c.sz + 1) (hfr : d.fr = (takeL c v).fr) (hus : d.us = upd c.us (slotL c) true)
    (hnx : ∀ s, (∀ (i : Nat) (x : Nat × Int), E'[i]? = some x → x.1 ≠ s) → d.nx s = c.nx s)
    (hE : E'.length = r.E.length + 1) (hin : ∀ x, x ∈ E' ↔ x ∈ r.E ∨ x = (slotR r, v)) : Rep d { takeR r with E := E' } := by
  have hsl := h.slot
  have hmem : ∀ (i : Nat) (x : Nat × Int), E'[i]? = some x → (∃ j : Nat, r.E[j]? = some x) ∨ x = (slotR r, v) := by
    intro i x hi
    rcases (hin x).1 (List.mem_of_getElem? hi) with h | h
    · exact .inl (List.getElem?_of_mem h)
    · exact .inr h
  rcases Nat.eq_zero_or_pos r.F.length with h0 | h0
  · have hF : r.F = [] := List.eq_nil_of_length_eq_zero h0
    have hfr0 : c.fr = none := by rw [h.fr, hF]; rfl
    have hs : slotR r = r.U := by unfold slotR; rw [hF]; rfl
    have ht : takeR r = ⟨r.E, [], r.U + 1⟩ := by unfold takeR; rw [hF]; rfl
    rw [ht]
    refine ⟨hc, ?_, ?_, ?_, ?_, ?_, ?_, ?_⟩
    · rw [hn]; unfold takeL; rw [hfr0]; show c.n + 1 = r.U + 1; rw [h.n]
    · show d.sz = E'.length; rw [hsz, h.sz, hE]
    · rw [hfr]; unfold takeL; rw [hfr0]; rfl
    · intro i x hi
      rw [hus, hsl, hs]
      rcases hmem i x hi with ⟨j, hj⟩ | hx
      · obtain ⟨a1, a2⟩ := h.el j x hj
        exact ⟨by show _ < r.U + 1; omega, by rw [upd_other _ _ (by omega)]; exact a2⟩
      · subst hx
        exact ⟨by show _ < r.U + 1; omega, by rw [hs]; exact upd_same _ _ _⟩
    · intro j s hj; simp at hj
    · intro j k s hj; simp at hj
    · intro s hs'
      left
      have hs' : s < r.U + 1 := hs'
      rcases Nat.lt_or_ge s r.U with hlt | hge
      · rcases h.cov s hlt with ⟨i, x, hi, hx⟩ | ⟨j, hj⟩
        · obtain ⟨i', hi'⟩ := List.getElem?_of_mem ((hin x).2 (.inl (List.mem_of_getElem? hi)))
          exact ⟨i', x, hi', hx⟩
        · rw [hF] at hj; simp at hj
      · obtain ⟨i', hi'⟩ := List.getElem?_of_mem ((hin (slotR r, v)).2 (.inr rfl))
        exact ⟨i', _, hi', by show slotR r = s; omega⟩
  · obtain ⟨m, hm⟩ : ∃ m, r.F.length = m + 1 := ⟨r.F.length - 1, by omega⟩
    obtain ⟨t, ht⟩ : ∃ t, r.F[m]? = some t := ⟨r.F[m]'(by omega), List.getElem?_eq_getElem _⟩
    have hs : slotR r = t := by unfold slotR; rw [hm]; rw [freeAt_succ]; rw [ht]; rfl
    have hfr0 : c.fr = some t := by rw [h.fr, hm]; exact ht
    have htk : takeR r = ⟨r.E, r.F.take m, r.U⟩ := by unfold takeR; rw [hm]; rfl
    have hget : ∀ (j : Nat), (r.F.take m)[j]? = if j < m then r.F[j]? else none := fun j => by rw [List.getElem?_take]
    obtain ⟨t1, t2, t3⟩ := h.ff m t ht
    have hlen : (r.F.take m).length = m := by rw [List.length_take]; omega
    rw [htk]
    refine ⟨hc, ?_, ?_, ?_, ?_, ?_, ?_, ?_⟩
    · rw [hn]; unfold takeL; rw [hfr0]; exact h.n
    · show d.sz = E'.length; rw [hsz, h.sz, hE]
    · rw [hfr]; unfold takeL; rw [hfr0]
      show c.nx t = freeAt (r.F.take m) (r.F.take m).length
      rw [hlen, freeAt_take _ _ _ (Nat.le_refl _), t2]
    · intro i x hi
      rw [hus, hsl, hs]
      rcases hmem i x hi with ⟨j, hj⟩ | hx
      · obtain ⟨a1, a2⟩ := h.el j x hj
        refine ⟨a1, ?_⟩
        by_cases e : x.1 = t
        · rw [e]; exact upd_same _ _ _
        · rw [upd_other _ _ e]; exact a2
      · subst hx
        exact ⟨by show slotR r < r.U; omega, by rw [hs]; exact upd_same _ _ _⟩
    · intro j s hj
      have hj' : (r.F.take m)[j]? = some s := hj
      rw [hget] at hj'
      by_cases hjm : j < m
      · rw [if_pos hjm] at hj'
        obtain ⟨b1, b2, b3⟩ := h.ff j s hj'
        have hst : s ≠ t := fun e => by
          have := h.nf j m s hj' (by rw [e]; exact ht)
          omega
        refine ⟨b1, ?_, ?_⟩
        · rw [hnx s ?_, b2]
          · exact (freeAt_take _ _ _ (by omega)).symm
          · intro i x hi e
            rcases hmem i x hi with ⟨j', hj''⟩ | hx
            · have := (h.el j' x hj'').2
              rw [e, b3] at this
              cases this
            · rw [hx] at e
              exact hst (e.symm.trans hs)
        · rw [hus, hsl, hs, upd_other _ _ hst]; exact b3
      · rw [if_neg hjm] at hj'; cases hj'
    · intro j k s hj hk
      have hj' : (r.F.take m)[j]? = some s := hj
      have hk' : (r.F.take m)[k]? = some s := hk
      rw [hget] at hj' hk'
      split at hj' <;> split at hk'
      · exact h.nf j k s hj' hk'
      all_goals simp_all
    · intro s hs'
      rcases h.cov s hs' with ⟨i, x, hi, hx⟩ | ⟨j, hj⟩
      · left
        obtain ⟨i', hi'⟩ := List.getElem?_of_mem ((hin x).2 (.inl (List.mem_of_getElem? hi)))
        exact ⟨i', x, hi', hx⟩
      · rcases Nat.lt_or_ge j m with hjm | hjm
        · right
          exact ⟨j, by show (r.F.take m)[j]? = some s; rw [hget, if_pos hjm]; exact hj⟩
        · left
          have hjl : j < r.F.length := by
            rcases Nat.lt_or_ge j r.F.length with h | h
            · exact h
            · rw [List.getElem?_eq_none h] at hj; cases hj
          have : j = m := by omega
          subst this
          rw [ht] at hj
          injection hj with hj
          obtain ⟨i', hi'⟩ := List.getElem?_of_mem ((hin (slotR r, v)).2 (.inr rfl))
          exact ⟨i', _, hi', by show slotR r = s; omega⟩

theorem rep_pushBack {c : LS} {r : R} (h : Rep c r) (v : Int) : Rep (pushBackL c v) (pushBackR r v) := by
  have hsl := h.slot
  have hch := chain_back (h.take_chain v) (s := slotL c) (by rw [hsl]; exact h.fresh)
  rw [takeL_val, upd_same, takeL_la] at hch
  rw [show (slotL c, v) = (slotR r, v) by rw [hsl]] at hch
  unfold pushBackR pushBackL
  refine rep_taken (v := v) h hch ?_ ?_ ?_ ?_ ?_ (by simp) (by simp)
  · rw [joinL_n, joinL_n]
  · rw [joinL_sz, joinL_sz, takeL_sz]
  · rw [joinL_fr, joinL_fr]
  · rw [joinL_us, joinL_us, takeL_us]
  · intro s hs
    have h1 : s ≠ slotL c := by
      intro e
      have := hs r.E.length (slotR r, v) (by simp)
      exact this (by show slotR r = s; rw [e, hsl])
    rw [joinL_nx, joinL_nx, takeL_nx, if_neg (by simp; exact fun e => h1 e.symm), if_neg, upd_other _ _ h1]
    intro e
    have hla := h.ch.la
    rw [hla] at e
    unfold lastAt at e
    cases hl : r.E.length with
    | zero => rw [hl] at e; cases e
    | succ m =>
      rw [hl] at e
      rw [before_succ] at e; unfold slotAt at e
      cases hx : r.E[m]? with
      | none => rw [hx] at e; cases e
      | some x =>
        rw [hx] at e
        injection e with e
        exact hs m x (by rw [List.getElem?_append, if_pos (by omega)]; exact hx) e

theorem rep_pushFront {c : LS} {r : R} (h : Rep c r) (v : Int) : Rep (pushFrontL c v) (pushFrontR r v) := by
  have hsl := h.slot
  have hch := chain_front (h.take_chain v) (s := slotL c) (by rw [hsl]; exact h.fresh)
  rw [takeL_val, upd_same, takeL_fi] at hch
  rw [show (slotL c, v) = (slotR r, v) by rw [hsl]] at hch
  unfold pushFrontR pushFrontL
  refine rep_taken (v := v) h hch ?_ ?_ ?_ ?_ ?_ (by simp) (by intro x; simp; exact or_comm)
  · rw [joinL_n, joinL_n]
  · rw [joinL_sz, joinL_sz, takeL_sz]
  · rw [joinL_fr, joinL_fr]
  · rw [joinL_us, joinL_us, takeL_us]
  · intro s hs
    have h1 : s ≠ slotL c := by
      intro e
      have := hs 0 (slotR r, v) (by simp)
      exact this (by show slotR r = s; rw [e, hsl])
    rw [joinL_nx, joinL_nx, takeL_nx, if_neg (by simp), if_neg (by simp; exact fun e => h1 e.symm), upd_other _ _ h1]

theorem mem_without {E : List (Nat × Int)} {i : Nat} {x : Nat × Int} (hi : E[i]? = some x) (nd : ∀ (i j : Nat) (x y : Nat × Int), E[i]? = some x → E[j]? = some y → x.1 = y.1 → i = j) {j : Nat} {y : Nat × Int} (hj : E[j]? = some y) (hne : y.1 ≠ x.1) : ∃ k : Nat, (without E i)[k]? = some y := by
  have hil : i < E.length := by
    rcases Nat.lt_or_ge i E.length with h | h
    · exact h
    · rw [List.getElem?_eq_none h] at hi; cases hi
  rcases Nat.lt_trichotomy j i with h | h | h
  · exact ⟨j, by rw [getD_without _ _ _ hil, if_pos h]; exact hj⟩
  · subst h; rw [hi] at hj; injection hj with e; exact absurd (by rw [e]) hne
  · exact ⟨j - 1, by rw [getD_without _ _ _ hil, if_neg (by omega), show j - 1 + 1 = j by omega]; exact hj⟩
theorem of_without {E : List (Nat × Int)} {i : Nat} {x : Nat × Int} (hi : E[i]? = some x) (nd : ∀ (i j : Nat) (x y : Nat × Int), E[i]? = some x → E[j]? = some y → x.1 = y.1 → i = j) {k : Nat} {y : Nat × Int} (hk : (without E i)[k]? = some y) : (∃ j : Nat, E[j]? = some y) ∧ y.1 ≠ x.1 := by
  have hil : i < E.length := by
    rcases Nat.lt_or_ge i E.length with h | h
    · exact h
    · rw [List.getElem?_eq_none h] at hi; cases hi
  rw [getD_without _ _ _ hil] at hk
  split at hk
  · exact ⟨⟨k, hk⟩, fun e => by have := nd _ _ _ _ hk hi e; omega⟩
  · exact ⟨⟨k + 1, hk⟩, fun e => by have := nd _ _ _ _ hk hi e; omega⟩

theorem rep_remove {c : LS} {r : R} (h : Rep c r) {i : Nat} {x : Nat × Int} (hi : r.E[i]? = some x) : Rep (removeL c x.1) (removeR r i x.1) := by
  have hil : i < r.E.length := by
    rcases Nat.lt_or_ge i r.E.length with h | h
    · exact h
    · rw [List.getElem?_eq_none h] at hi; cases hi
  have hcut := chain_cut h.ch hi
  obtain ⟨x1, x2⟩ := h.el i x hi
  obtain ⟨_, xn, xp⟩ := h.ch.el i x hi
  have hof := fun (k : Nat) (y : Nat × Int) hk => of_without hi h.ch.nd (k := k) (y := y) hk
  unfold removeL removeR
  refine ⟨hcut.congr rfl rfl fun k y hk => ?_, ?_, ?_, ?_, ?_, ?_, ?_, ?_⟩
  · obtain ⟨_, hne⟩ := hof k y hk
    exact ⟨upd_other _ _ hne, upd_other _ _ hne, upd_other _ _ hne⟩
  · show (joinL c _ _).n = r.U
    rw [joinL_n, h.n]
  · show (joinL c _ _).sz - 1 = (without r.E i).length
    rw [joinL_sz, h.sz, length_without _ _ hil]
  · show some x.1 = freeAt (r.F ++ [x.1]) (r.F ++ [x.1]).length
    simp [freeAt]
  · intro k y hk
    obtain ⟨⟨j, hj⟩, hne⟩ := hof k y hk
    obtain ⟨y1, y2⟩ := h.el j y hj
    refine ⟨y1, ?_⟩
    show upd (joinL c _ _).us x.1 false y.1 = true
    rw [upd_other _ _ hne, joinL_us]; exact y2
  · intro j s hj
    have hj' : (r.F ++ [x.1])[j]? = some s := hj
    rw [List.getElem?_append] at hj'
    split at hj'
    · rename_i hlt
      obtain ⟨b1, b2, b3⟩ := h.ff j s hj'
      have hne : s ≠ x.1 := fun e => by rw [e, x2] at b3; cases b3
      refine ⟨b1, ?_, ?_⟩
      · show upd (joinL c _ _).nx x.1 _ s = freeAt (r.F ++ [x.1]) j
        rw [upd_other _ _ hne, joinL_nx, if_neg, b2, freeAt_snoc _ _ _ (by omega)]
        rw [xp]
        intro e
        cases i with
        | zero => cases e
        | succ i =>
          rw [before_succ] at e; unfold slotAt at e
          cases hz : r.E[i]? with
          | none => rw [hz] at e; cases e
          | some z =>
            rw [hz] at e
            injection e with e
            have := (h.el i z hz).2
            rw [e, b3] at this
            cases this
      · show upd (joinL c _ _).us x.1 false s = false
        rw [upd_other _ _ hne, joinL_us]; exact b3
    · rename_i hge
      rcases Nat.lt_or_ge (j - r.F.length) 1 with hh | hh
      · have e0 : j - r.F.length = 0 := by omega
        rw [e0] at hj'
        simp at hj'
        subst hj'
        have ej : j = r.F.length := by omega
        subst ej
        refine ⟨x1, ?_, ?_⟩
        · show upd (joinL c _ _).nx x.1 (joinL c _ _).fr x.1 = freeAt (r.F ++ [x.1]) r.F.length
          rw [upd_same, joinL_fr, h.fr, freeAt_snoc _ _ _ (Nat.le_refl _)]
        · exact upd_same _ _ _
      · rw [List.getElem?_eq_none (by simp; omega)] at hj'; cases hj'
  · intro j k s hj hk
    have key : ∀ (j : Nat), (r.F ++ [x.1])[j]? = some s → (r.F[j]? = some s ∧ j < r.F.length) ∨ (j = r.F.length ∧ s = x.1) := by
      intro j hj'
      rw [List.getElem?_append] at hj'
      split at hj'
      · exact .inl ⟨hj', ‹_›⟩
      · right
        rcases Nat.lt_or_ge (j - r.F.length) 1 with hh | hh
        · have e0 : j - r.F.length = 0 := by omega
          rw [e0] at hj'
          simp at hj'
          exact ⟨by omega, hj'.symm⟩
        · rw [List.getElem?_eq_none (by simp; omega)] at hj'; cases hj'
    have hx : ∀ (j : Nat), r.F[j]? = some x.1 → False := fun j hj => by
      have := (h.ff j x.1 hj).2.2
      rw [x2] at this
      cases this
    rcases key j hj with ⟨a1, a2⟩ | ⟨a1, a2⟩ <;> rcases key k hk with ⟨b1, b2⟩ | ⟨b1, b2⟩
    · exact h.nf j k s a1 b1
    · rw [b2] at a1; exact (hx _ a1).elim
    · rw [a2] at b1; exact (hx _ b1).elim
    · omega
  · intro s hs
    rcases h.cov s hs with ⟨j, y, hj, hy⟩ | ⟨j, hj⟩
    · by_cases e : y.1 = x.1
      · right
        refine ⟨r.F.length, ?_⟩
        show (r.F ++ [x.1])[r.F.length]? = some s
        simp
        rw [← e, hy]
      · left
        obtain ⟨k, hk⟩ := mem_without hi h.ch.nd hj e
        exact ⟨k, y, hk, hy⟩
    · right
      refine ⟨j, ?_⟩
      have hjl : j < r.F.length := by
        rcases Nat.lt_or_ge j r.F.length with h | h
        · exact h
        · rw [List.getElem?_eq_none h] at hj; cases hj
      show (r.F ++ [x.1])[j]? = some s
      rw [List.getElem?_append, if_pos hjl]; exact hj

theorem rep_move {c : LS} {r : R} (h : Rep c r) {i : Nat} {x : Nat × Int} (hi : r.E[i]? = some x) : Rep (moveL c x.1) (moveR r i x) := by
  have hil : i < r.E.length := by
    rcases Nat.lt_or_ge i r.E.length with h | h
    · exact h
    · rw [List.getElem?_eq_none h] at hi; cases hi
  have hcut := chain_cut h.ch hi
  obtain ⟨x1, x2⟩ := h.el i x hi
  obtain ⟨xv, xn, xp⟩ := h.ch.el i x hi
  have hof := fun (k : Nat) (y : Nat × Int) hk => of_without hi h.ch.nd (k := k) (y := y) hk
  have hch := chain_back hcut (s := x.1) (fun k y hk => (hof k y hk).2)
  rw [joinL_val, xv] at hch
  unfold moveL moveR
  have hmem : ∀ (k : Nat) (y : Nat × Int), (without r.E i ++ [x])[k]? = some y → ∃ j : Nat, r.E[j]? = some y := by
    intro k y hk
    rw [List.getElem?_append] at hk
    split at hk
    · exact (hof k y hk).1
    · rcases Nat.lt_or_ge (k - (without r.E i).length) 1 with hh | hh
      · have e0 : k - (without r.E i).length = 0 := by omega
        rw [e0] at hk
        simp at hk
        subst hk
        exact ⟨i, hi⟩
      · rw [List.getElem?_eq_none (by simp; omega)] at hk; cases hk
  have hnotF : ∀ (j : Nat) (s : Nat), r.F[j]? = some s → ∀ (k : Nat) (y : Nat × Int), r.E[k]? = some y → y.1 ≠ s := by
    intro j s hj k y hk e
    have := (h.el k y hk).2
    rw [e, (h.ff j s hj).2.2] at this
    cases this
  refine ⟨hch, ?_, ?_, ?_, ?_, ?_, h.nf, ?_⟩
  · rw [joinL_n, joinL_n, joinL_n, h.n]
  · rw [joinL_sz, joinL_sz, joinL_sz, h.sz]
    show _ = (without r.E i ++ [x]).length
    rw [List.length_append, length_without _ _ hil]
    simp
    omega
  · rw [joinL_fr, joinL_fr, joinL_fr, h.fr]
  · intro k y hk
    obtain ⟨j, hj⟩ := hmem k y hk
    rw [joinL_us, joinL_us, joinL_us]
    exact h.el j y hj
  · intro j s hj
    obtain ⟨b1, b2, b3⟩ := h.ff j s hj
    refine ⟨b1, ?_, by rw [joinL_us, joinL_us, joinL_us]; exact b3⟩
    have n1 := hnotF j s hj i x hi
    rw [joinL_nx, joinL_nx, joinL_nx, if_neg (by simp; exact n1), if_neg, if_neg, b2]
    · rw [xp]
      intro e
      cases i with
      | zero => cases e
      | succ i =>
        rw [before_succ] at e; unfold slotAt at e
        cases hz : r.E[i]? with
        | none => rw [hz] at e; cases e
        | some z =>
          rw [hz] at e
          injection e with e
          exact hnotF j s hj i z hz e
    · rw [hcut.la]
      intro e
      unfold lastAt at e
      cases hl : (without r.E i).length with
      | zero => rw [hl] at e; cases e
      | succ m =>
        rw [hl] at e
        rw [before_succ] at e; unfold slotAt at e
        cases hz : (without r.E i)[m]? with
        | none => rw [hz] at e; cases e
        | some z =>
          rw [hz] at e
          injection e with e
          obtain ⟨⟨j', hj'⟩, _⟩ := hof m z hz
          exact hnotF j s hj j' z hj' e
  · intro s hs
    rcases h.cov s hs with ⟨j, y, hj, hy⟩ | hF
    · left
      by_cases e : y.1 = x.1
      · exact ⟨(without r.E i).length, x, by simp, by rw [← e]; exact hy⟩
      · obtain ⟨k, hk⟩ := mem_without hi h.ch.nd hj e
        have hkl : k < (without r.E i).length := by
          rcases Nat.lt_or_ge k (without r.E i).length with h | h
          · exact h
          · rw [List.getElem?_eq_none h] at hk; cases hk
        exact ⟨k, y, by show (without r.E i ++ [x])[k]? = _; rw [List.getElem?_append, if_pos hkl]; exact hk, hy⟩
    · exact .inr hF

def emptyL : LS := ⟨0, fun _ => 0, fun _ => none, fun _ => none, fun _ => false, none, none, none, 0⟩
def emptyR : R := ⟨[], [], 0⟩
theorem rep_empty (f : Nat → Int) (g h : Nat → Option Nat) (u : Nat → Bool) : Rep ⟨0, f, g, h, u, none, none, none, 0⟩ emptyR := by
  refine ⟨⟨rfl, rfl, ?_, ?_⟩, rfl, rfl, rfl, ?_, ?_, ?_, ?_⟩ <;> simp [emptyR]

/-- the place of a slot: its index, if it is used -/
theorem rep_used {c : LS} {r : R} (h : Rep c r) {s : Nat} (hs : s < c.n) (hu : c.us s = true) : ∃ (i : Nat) (x : Nat × Int), r.E[i]? = some x ∧ x.1 = s := by
  rw [h.n] at hs
  rcases h.cov s hs with h1 | ⟨j, hj⟩
  · exact h1
  · have := (h.ff j s hj).2.2
    rw [hu] at this
    cases this
end Go.Proofs.Ytegdchlbmjokmaa.Lnk
