/- The store of entries, plainly: the reference's store, and what the program's store stands for. -/
import Derived.Test.YtnihkjhejjeepaaSlb8
namespace Go.Proofs.Ytnihkjhejjeepaa
open Go.RowKit
set_option linter.unusedVariables false
set_option linter.unusedSimpArgs false
open ShaW Sha

structure Plc where
  full : Bool
  uses : Nat
  e : Ent
structure RSt where
  most : Nat
  pl : List Plc
  fr : List Nat
def one? (b : Bool) : Nat := if b then 1 else 0
def cntP : List Plc → Nat
  | [] => 0
  | p :: l => one? p.full + cntP l
def sizeP : List Plc → Nat
  | [] => 0
  | p :: l => (if p.full then p.e.rn else 0) + sizeP l
theorem cntP_append (l l' : List Plc) : cntP (l ++ l') = cntP l + cntP l' := by
  induction l with
  | nil => simp [cntP]
  | cons a l ih => simp [cntP, ih, Nat.add_assoc]
theorem cntP_set {l : List Plc} {i : Nat} {p : Plc} (h : l[i]? = some p) (q : Plc) : cntP (l.set i q) + one? p.full = cntP l + one? q.full := by
  induction l generalizing i with
  | nil => simp at h
  | cons a l ih =>
    cases i with
    | zero =>
      simp at h
      subst h
      simp [cntP]
      omega
    | succ i =>
      simp at h
      have := ih h
      simp [cntP]
      omega
theorem cntP_len (l : List Plc) : cntP l ≤ l.length := by
  induction l with
  | nil => simp [cntP]
  | cons a l ih => simp only [cntP, List.length_cons]; unfold one?; split <;> omega
def plc0 : Plc := ⟨false, 0, ent0⟩
def RSt.pl1 (m : RSt) : List Plc := if m.fr = [] then m.pl ++ [plc0] else m.pl
def RSt.slot (m : RSt) : Nat := m.fr.getLast?.getD m.pl.length
def RSt.use (m : RSt) : Nat := ((m.pl1[m.slot]?).getD plc0).uses
def RSt.add (m : RSt) (e : Ent) : RSt := ⟨m.most, m.pl1.set m.slot ⟨true, m.use + 1, e⟩, m.fr.dropLast⟩
def RSt.ok (m : RSt) (s u : Int) : Bool := decide (0 ≤ s) && (match m.pl[s.toNat]? with | some p => p.full && decide ((p.uses : Int) - 1 = u) | none => false)
def RSt.rem (m : RSt) (i : Nat) : RSt := ⟨m.most, m.pl.set i ⟨false, ((m.pl[i]?).getD plc0).uses, ent0⟩, m.fr ++ [i]⟩
def RSt.full (m : RSt) : Bool := decide (m.most ≤ cntP m.pl)
def Small (e : Ent) : Prop := e.rn ≤ 16 ∧ e.peers.length ≤ 16
structure WfR (m : RSt) (k : Nat) : Prop where
  most : m.most ≤ 512
  len : m.pl.length ≤ k
  uses : ∀ p ∈ m.pl, p.uses ≤ k
  ents : ∀ p ∈ m.pl, Small p.e
  free : ∀ i ∈ m.fr, ∃ p, m.pl[i]? = some p ∧ p.full = false
  nd : m.fr.Nodup
  cnt : cntP m.pl ≤ m.most
  pos : ∀ p ∈ m.pl, p.full = true → 1 ≤ p.uses
theorem WfR.more {m : RSt} {k k' : Nat} (h : WfR m k) (hk : k ≤ k') : WfR m k' :=
  ⟨h.most, Nat.le_trans h.len hk, fun p hp => Nat.le_trans (h.uses p hp) hk, h.ents, h.free, h.nd, h.cnt, h.pos⟩
theorem wf0 (n : Int) (k : Nat) : WfR ⟨clampS n, [], []⟩ k :=
  ⟨by show clampS n ≤ 512; unfold clampS; omega, Nat.zero_le _, fun _ h => absurd h List.not_mem_nil, fun _ h => absurd h List.not_mem_nil, fun _ h => absurd h List.not_mem_nil, List.nodup_nil, Nat.zero_le _, fun _ h => absurd h List.not_mem_nil⟩
theorem getLast_split {l : List Nat} {i : Nat} (h : l.getLast? = some i) : l = l.dropLast ++ [i] := by
  obtain ⟨ys, rfl⟩ := List.getLast?_eq_some_iff.1 h
  simp
theorem RSt.slot_lt {m : RSt} {k : Nat} (h : WfR m k) : m.slot < m.pl1.length := by
  unfold RSt.slot RSt.pl1
  cases hg : m.fr.getLast? with
  | none =>
    have : m.fr = [] := by simpa using hg
    rw [if_pos this]; simp
  | some i =>
    have hne : m.fr ≠ [] := by intro e; rw [e] at hg; cases hg
    rw [if_neg hne]
    obtain ⟨p, hp, _⟩ := h.free i (List.mem_of_getLast? hg)
    exact (List.getElem?_eq_some_iff.1 hp).1
/-- the place that is taken is free -/
theorem RSt.slot_at {m : RSt} {k : Nat} (h : WfR m k) : ∃ p, m.pl1[m.slot]? = some p ∧ p.full = false ∧ p.uses = m.use ∧ p.uses ≤ k := by
  have hl := RSt.slot_lt h
  obtain ⟨p0, hg⟩ : ∃ p0, m.pl1[m.slot]? = some p0 := ⟨_, List.getElem?_eq_getElem hl⟩
  clear hl
  refine ⟨_, hg, ?_, by unfold RSt.use; rw [hg]; rfl, ?_⟩
  all_goals
    have hg' := hg
    unfold RSt.slot RSt.pl1 at hg'
    cases he : m.fr.getLast? with
    | none =>
      have hn : m.fr = [] := by simpa using he
      rw [he, if_pos hn] at hg'
      simp at hg'
      rw [← hg']
      first | rfl | exact Nat.zero_le _
    | some i =>
      have hne : m.fr ≠ [] := by intro e; rw [e] at he; cases he
      rw [he, if_neg hne] at hg'
      obtain ⟨p, hp, hf⟩ := h.free i (List.mem_of_getLast? he)
      simp only [Option.getD_some] at hg'
      rw [hp] at hg'
      injection hg' with hg'
      rw [← hg']
      first | exact hf | exact h.uses p (List.mem_of_getElem? hp)
theorem pl1_mem {m : RSt} {p : Plc} (h : p ∈ m.pl1) : p ∈ m.pl ∨ p = plc0 := by
  unfold RSt.pl1 at h
  split at h
  · rcases List.mem_append.1 h with h | h
    · exact .inl h
    · exact .inr (List.mem_singleton.1 h)
  · exact .inl h
theorem pl1_len (m : RSt) : m.pl1.length ≤ m.pl.length + 1 := by unfold RSt.pl1; split <;> simp
theorem pl1_cnt (m : RSt) : cntP m.pl1 = cntP m.pl := by unfold RSt.pl1; split; rw [cntP_append]; rfl; rfl
theorem pl1_get {m : RSt} {i : Nat} {p : Plc} (h : m.pl[i]? = some p) : m.pl1[i]? = some p := by
  unfold RSt.pl1
  split
  · rw [List.getElem?_append_left (List.getElem?_eq_some_iff.1 h).1]; exact h
  · exact h
theorem cnt_add {m : RSt} {k : Nat} (h : WfR m k) (e : Ent) : cntP (m.add e).pl = cntP m.pl + 1 := by
  obtain ⟨p, hp, hf, _, _⟩ := RSt.slot_at h
  have h1 := cntP_set hp ⟨true, m.use + 1, e⟩
  rw [hf, pl1_cnt] at h1
  exact h1
theorem drop_not_slot {m : RSt} {k : Nat} (h : WfR m k) {i : Nat} (hi : i ∈ m.fr.dropLast) : i ∈ m.fr ∧ i ≠ m.slot := by
  refine ⟨(List.dropLast_sublist _).subset hi, ?_⟩
  rintro rfl
  unfold RSt.slot at hi
  cases he : m.fr.getLast? with
  | none =>
    have hn : m.fr = [] := by simpa using he
    rw [hn] at hi; cases hi
  | some j =>
    rw [he, Option.getD_some] at hi
    have hn := h.nd
    rw [getLast_split he] at hn
    have := (List.nodup_append.1 hn).2.2 _ hi j (List.mem_singleton.2 rfl)
    exact this rfl
theorem WfR.add {m : RSt} {k : Nat} (h : WfR m k) (hf : m.full = false) {e : Ent} (he : Small e) : WfR (m.add e) (k + 1) := by
  have hc : ¬ m.most ≤ cntP m.pl := by simpa [RSt.full] using hf
  obtain ⟨p, hp, hpf, hpu, hpk⟩ := RSt.slot_at h
  refine ⟨h.most, ?_, ?_, ?_, ?_, ?_, ?_, ?_⟩
  · show (m.pl1.set _ _).length ≤ _
    rw [List.length_set]
    have := pl1_len m
    have := h.len
    omega
  · intro q hq
    rcases List.mem_or_eq_of_mem_set hq with hq | rfl
    · rcases pl1_mem hq with hq | rfl
      · exact Nat.le_trans (h.uses q hq) (Nat.le_succ _)
      · exact Nat.zero_le _
    · show m.use + 1 ≤ k + 1
      omega
  · intro q hq
    rcases List.mem_or_eq_of_mem_set hq with hq | rfl
    · rcases pl1_mem hq with hq | rfl
      · exact h.ents q hq
      · exact ⟨Nat.zero_le _, Nat.zero_le _⟩
    · exact he
  · intro i hi
    obtain ⟨h1, h2⟩ := drop_not_slot h hi
    obtain ⟨q, hq, hqf⟩ := h.free i h1
    refine ⟨q, ?_, hqf⟩
    show (m.pl1.set _ _)[i]? = _
    rw [List.getElem?_set_ne (Ne.symm h2)]
    exact pl1_get hq
  · exact h.nd.sublist (List.dropLast_sublist _)
  · rw [cnt_add h]
    show cntP m.pl + 1 ≤ m.most
    omega
  · intro q hq hqf
    rcases List.mem_or_eq_of_mem_set hq with hq | rfl
    · rcases pl1_mem hq with hq | rfl
      · exact h.pos q hq hqf
      · cases hqf
    · show 1 ≤ m.use + 1
      omega
theorem RSt.ok_some {m : RSt} {s u : Int} (h : m.ok s u = true) : ∃ i p, s = ((i : Nat) : Int) ∧ m.pl[i]? = some p ∧ p.full = true ∧ (p.uses : Int) - 1 = u := by
  unfold RSt.ok at h
  simp only [Bool.and_eq_true, decide_eq_true_eq] at h
  obtain ⟨h1, h2⟩ := h
  cases hr : m.pl[s.toNat]? with
  | none => rw [hr] at h2; cases h2
  | some r =>
    rw [hr] at h2
    simp only [Bool.and_eq_true, decide_eq_true_eq] at h2
    exact ⟨s.toNat, r, by omega, hr, h2.1, h2.2⟩
theorem RSt.ok_at {m : RSt} {i : Nat} {p : Plc} (h : m.pl[i]? = some p) (u : Int) : m.ok (i : Int) u = (p.full && decide ((p.uses : Int) - 1 = u)) := by
  unfold RSt.ok
  rw [Int.toNat_natCast, h]
  simp
theorem RSt.ok_none {m : RSt} {s u : Int} (h : s < 0 ∨ (m.pl.length : Int) ≤ s) : m.ok s u = false := by
  unfold RSt.ok
  by_cases h0 : 0 ≤ s
  · rw [List.getElem?_eq_none (by omega)]
    simp
  · simp [h0]
theorem WfR.rem {m : RSt} {k : Nat} (h : WfR m k) {i : Nat} {p : Plc} (hp : m.pl[i]? = some p) (hf : p.full = true) : WfR (m.rem i) k := by
  have hil := (List.getElem?_eq_some_iff.1 hp).1
  have hu : ((m.pl[i]?).getD plc0).uses = p.uses := by rw [hp]; rfl
  have hni : i ∉ m.fr := fun hi => by
    obtain ⟨q, hq, hqf⟩ := h.free i hi
    rw [hp] at hq
    injection hq with hq
    rw [hq, hqf] at hf
    cases hf
  have hc := cntP_set hp ⟨false, ((m.pl[i]?).getD plc0).uses, ent0⟩
  rw [hf] at hc
  refine ⟨h.most, ?_, ?_, ?_, ?_, ?_, ?_, ?_⟩
  · show (m.pl.set _ _).length ≤ _
    rw [List.length_set]; exact h.len
  · intro q hq
    rcases List.mem_or_eq_of_mem_set hq with hq | rfl
    · exact h.uses q hq
    · show Plc.uses _ ≤ k
      rw [hp]; exact h.uses p (List.mem_of_getElem? hp)
  · intro q hq
    rcases List.mem_or_eq_of_mem_set hq with hq | rfl
    · exact h.ents q hq
    · exact ⟨Nat.zero_le _, Nat.zero_le _⟩
  · intro j hj
    show ∃ p, (m.pl.set i _)[j]? = some p ∧ _
    rcases List.mem_append.1 hj with hj | hj
    · obtain ⟨q, hq, hqf⟩ := h.free j hj
      exact ⟨q, by rw [List.getElem?_set_ne (show i ≠ j from fun e => hni (by rw [e]; exact hj))]; exact hq, hqf⟩
    · rw [List.mem_singleton.1 hj]
      exact ⟨_, List.getElem?_set_self hil, rfl⟩
  · show (m.fr ++ [i]).Nodup
    rw [List.nodup_append]
    exact ⟨h.nd, by simp, fun a ha b hb e => hni (by rw [← List.mem_singleton.1 hb, ← e]; exact ha)⟩
  · show cntP (m.pl.set i _) ≤ m.most
    have := h.cnt
    unfold one? at hc
    simp at hc
    omega
  · intro q hq hqf
    rcases List.mem_or_eq_of_mem_set hq with hq | rfl
    · exact h.pos q hq hqf
    · cases hqf
theorem cnt_rem {m : RSt} {i : Nat} {p : Plc} (hp : m.pl[i]? = some p) (hf : p.full = true) : cntP (m.rem i).pl + 1 = cntP m.pl := by
  have hc := cntP_set hp ⟨false, ((m.pl[i]?).getD plc0).uses, ent0⟩
  rw [hf] at hc
  exact hc

/-! ### the program's slots and the reference's places -/
def PlOk (r : SRow) (p : Plc) : Prop := r.s.full = p.full ∧ (p.full = true → r.s.e = p.e ∧ r.s.use + 1 = p.uses) ∧ (p.full = false → r.s.use = p.uses ∧ r.s.e = ent0)
def Chain (L : List SRow) : Int → List Nat → Prop
  | f, [] => f = -1
  | f, i :: l => f = (i : Int) ∧ ∃ r, L[i]? = some r ∧ Chain L r.s.next l
structure RelS (L : List SRow) (free : Int) (m : RSt) : Prop where
  len : L.length = m.pl.length
  at_ : ∀ (i : Nat) r p, L[i]? = some r → m.pl[i]? = some p → PlOk r p
  ch : Chain L free m.fr.reverse
theorem Chain.set {L : List SRow} {i : Nat} (x : SRow) : ∀ {f : Int} {l : List Nat}, Chain L f l → i ∉ l → Chain (L.set i x) f l
  | _, [], h, _ => h
  | _, j :: l, ⟨h1, r, h2, h3⟩, hn => ⟨h1, r, by rw [List.getElem?_set_ne (fun e => hn (by rw [e]; exact List.mem_cons_self))]; exact h2, h3.set x (fun hi => hn (List.mem_cons_of_mem _ hi))⟩
theorem Chain.snoc {L : List SRow} (x : SRow) : ∀ {f : Int} {l : List Nat}, Chain L f l → Chain (L ++ [x]) f l
  | _, [], h => h
  | _, j :: l, ⟨h1, r, h2, h3⟩ => ⟨h1, r, by rw [List.getElem?_append_left (List.getElem?_eq_some_iff.1 h2).1]; exact h2, h3.snoc x⟩
theorem Chain.bd {L : List SRow} : ∀ {f : Int} {l : List Nat}, Chain L f l → -1 ≤ f ∧ f ≤ L.length
  | _, [], h => by rw [show _ = (-1 : Int) from h]; omega
  | _, j :: l, ⟨h1, r, h2, h3⟩ => by have := (List.getElem?_eq_some_iff.1 h2).1; omega
theorem RelS.slot {L : List SRow} {free : Int} {m : RSt} (h : RelS L free m) {i : Nat} {p : Plc} (hp : m.pl[i]? = some p) : ∃ r, L[i]? = some r ∧ PlOk r p := by
  have hil := (List.getElem?_eq_some_iff.1 hp).1
  have : L[i]? = some (L[i]'(by rw [h.len]; exact hil)) := List.getElem?_eq_getElem _
  exact ⟨_, this, h.at_ i _ p this hp⟩
theorem RelS.place {L : List SRow} {free : Int} {m : RSt} (h : RelS L free m) {i : Nat} {r : SRow} (hr : L[i]? = some r) : ∃ p, m.pl[i]? = some p ∧ PlOk r p := by
  have hil := (List.getElem?_eq_some_iff.1 hr).1
  have : m.pl[i]? = some (m.pl[i]'(by rw [← h.len]; exact hil)) := List.getElem?_eq_getElem _
  exact ⟨_, this, h.at_ i r _ hr this⟩
theorem RelS.has {L : List SRow} {free : Int} {m : RSt} (h : RelS L free m) (s u : Int) : hasS L s u = m.ok s u := by
  unfold hasS RSt.ok
  congr 1
  cases hr : L[s.toNat]? with
  | none =>
    have : m.pl[s.toNat]? = none := by
      rw [List.getElem?_eq_none_iff] at hr ⊢
      rw [← h.len]; exact hr
    rw [this]
  | some r =>
    obtain ⟨p, hp, h1, h2, h3⟩ := h.place hr
    rw [hp]
    show (r.s.full && _) = (p.full && _)
    rw [h1]
    cases hf : p.full with
    | false => rfl
    | true =>
      have := (h2 hf).2
      simp only [Bool.true_and, decide_eq_decide]
      omega
theorem sizeS_rel : ∀ (L : List SRow) (P : List Plc), L.length = P.length → (∀ (i : Nat) r p, L[i]? = some r → P[i]? = some p → PlOk r p) → sizeS L = sizeP P
  | [], [], _, _ => rfl
  | [], _ :: _, h, _ => by cases h
  | _ :: _, [], h, _ => by cases h
  | r :: L, p :: P, h, hp => by
    have h0 := hp 0 r p rfl rfl
    have ih := sizeS_rel L P (by simpa using h) (fun i r p h1 h2 => hp (i + 1) r p (by simpa using h1) (by simpa using h2))
    have e1 : sizeS (r :: L) = r.s.e.rn + sizeS L := by simp [sizeS]
    rw [e1, ih, sizeP]
    congr 1
    obtain ⟨_, h2, h3⟩ := h0
    cases hf : p.full with
    | true => rw [(h2 hf).1]; rfl
    | false => rw [(h3 hf).2]; rfl
end Go.Proofs.Ytnihkjhejjeepaa
