/- CacheBounds: what holds, plainly and in memory. -/
import Derived.Test.YtegdchlbmjokmaaCacPs
import Derived.Test.YtegdchlbmjokmaaKeyDs
namespace Go.Proofs.Ytegdchlbmjokmaa
open Go.RowKit
set_option linter.unusedVariables false
set_option linter.unusedSimpArgs false
open Lnk

theorem dropK_split {L1 L2 : List Ky} {p k : Ky} (h1 : ∀ x ∈ L1, keyEq x k = false) (hp : keyEq p k = true) : dropK (L1 ++ p :: L2) k = L1 ++ L2 := by
  have e : idxK (L1 ++ p :: L2) k = some L1.length := by
    unfold idxK
    rw [List.findIdx?_eq_some_iff_getElem]
    refine ⟨by simp, by simpa using hp, fun j hj => ?_⟩
    rw [List.getElem_append_left hj]
    have := h1 _ (List.getElem_mem hj)
    simp [this]
  unfold dropK
  rw [e]
  show lackT _ _ = _
  unfold lackT
  rw [List.take_left]
  congr 1
  rw [← List.drop_drop, List.drop_left]
  rfl
theorem dropK_none {L : List Ky} {k : Ky} (h : ∀ x ∈ L, keyEq x k = false) : dropK L k = L := by
  have hh : hasK L k = false := by
    rw [← Bool.not_eq_true]
    intro h2
    obtain ⟨x, hx, hk⟩ := List.any_eq_true.1 h2
    rw [h x hx] at hk
    cases hk
  unfold dropK
  rw [idxK_none hh]
theorem split_has {L : List Ky} {k : Ky} (h : hasK L k = true) (hd : L.Pairwise fun a b => keyEq a b = false) : ∃ L1 p L2, L = L1 ++ p :: L2 ∧ keyEq p k = true ∧ (∀ x ∈ L1, keyEq x k = false) ∧ (∀ x ∈ L2, keyEq x k = false) := by
  obtain ⟨p, hp, hk⟩ := List.any_eq_true.1 h
  obtain ⟨L1, L2, rfl⟩ := List.append_of_mem hp
  rw [List.pairwise_append] at hd
  obtain ⟨_, h2, h3⟩ := hd
  have hpk : keyEq p k = true := hk
  refine ⟨L1, p, L2, rfl, hpk, fun x hx => ?_, fun x hx => ?_⟩
  · have := h3 x hx p (by simp)
    rw [keyEq_comm] at this ⊢
    rw [← keyEq_left hpk]; exact this
  · have := (List.pairwise_cons.1 h2).1 x hx
    rw [keyEq_comm, ← keyEq_left hpk]; exact this
theorem pushK_split {L1 L2 : List Ky} {p k : Ky} {s : Nat} (h1 : ∀ x ∈ L1, keyEq x k = false) (hp : keyEq p k = true) : pushK (L1 ++ p :: L2) s k = L1 ++ L2 ++ [k] := by
  have e := dropK_split (L2 := L2) h1 hp
  have hh : hasK (L1 ++ p :: L2) k = true := List.any_eq_true.2 ⟨p, by simp, hp⟩
  obtain ⟨i, _, hi, _, _⟩ := idxK_some hh
  unfold dropK at e
  unfold pushK
  rw [hi] at e ⊢
  exact congrArg (· ++ [k]) e
/-- the last keys, the newest first, are the cache's keys, the oldest last -/
theorem last_step {L : List Ky} {k : Ky} {s : Nat} (hd : L.Pairwise fun a b => keyEq a b = false) (hl : L.length ≤ s) (hs : 0 < s) : (pushK L s k).reverse = (k :: dropK L.reverse k).take (min (k :: dropK L.reverse k).length s) := by
  cases hh : hasK L k with
  | true =>
    obtain ⟨L1, p, L2, rfl, hp, h1, h2⟩ := split_has hh hd
    have e : (L1 ++ p :: L2).reverse = L2.reverse ++ p :: L1.reverse := by simp
    rw [pushK_split h1 hp, e, dropK_split (fun x hx => h2 x (List.mem_reverse.1 hx)) hp]
    rw [List.take_of_length_le]
    · simp
    · simp at hl ⊢
      omega
  | false =>
    have hno : ∀ x ∈ L, keyEq x k = false := fun x hx => by
      rw [← Bool.not_eq_true]
      intro h2
      have : hasK L k = true := List.any_eq_true.2 ⟨x, hx, h2⟩
      rw [hh] at this; cases this
    rw [dropK_none (fun x hx => hno x (List.mem_reverse.1 hx))]
    unfold pushK
    rw [idxK_none hh]
    show ((L ++ [k]).drop _).reverse = _
    by_cases h : L.length < s
    · rw [if_pos h, List.take_of_length_le (by simp; omega)]
      simp
    · rw [if_neg h, List.length_cons, List.length_reverse, show min (L.length + 1) s = L.length by omega, List.reverse_drop]
      simp
theorem dist_of_df {L : List Ky} (hd : L.Pairwise fun a b => keyEq a b = false) : distK L = true := by
  unfold distK
  suffices ∀ n, n ≤ L.length → distUp L n = true from this _ (Nat.le_refl _)
  intro n
  induction n with
  | zero => intro _; rfl
  | succ n ih =>
    intro hn
    have hx : L[n]? = some L[n] := List.getElem?_eq_getElem hn
    show (distUp L n && !hasK (L.take n) (L.getD n k0)) = true
    rw [ih (by omega), getD_of hx]
    have : hasK (L.take n) L[n] = false := by
      rw [← Bool.not_eq_true]
      intro h2
      obtain ⟨x, hx2, hk⟩ := List.any_eq_true.1 h2
      obtain ⟨j, hj, e⟩ := List.mem_take_iff_getElem.1 hx2
      have := List.pairwise_iff_getElem.1 hd j n (by omega) hn (by omega)
      rw [e] at this
      have hk' : keyEq x L[n] = true := hk
      rw [this] at hk'
      cases hk'
    rw [this]
    rfl
theorem CacL.df {w : World} {B C sz : Nat} {L : List Ky} {kb : Option Nat} (h : CacL w B C sz L kb) : L.Pairwise fun a b => keyEq a b = false := by
  obtain ⟨D, rv, r, kv, K, fv, F, M, Dm, T, h1, rfl, rfl⟩ := h
  exact h1.inv.df
theorem has_rev {L : List Ky} {k : Ky} (h : k ∈ L.reverse) : hasK L k = true := List.any_eq_true.2 ⟨k, List.mem_reverse.1 h, keyEq_refl k⟩

theorem KL.reads {w : World} {A : Option Addr} {n c : Nat} {L : List Ky} {gb : Option Nat} (h : KL w (.slice A n c) L gb) : L.length = n ∧ n ≤ c ∧ c ≤ 9223372036854775807 ∧ Reads w w.heap.size 32 A n (keysOf L) := by
  obtain ⟨A', n', c', e, ⟨k1, k2, k3, _⟩, _⟩ := id h
  injection e with e1 e2 e3
  subst e1 e2 e3
  refine ⟨k1, k2, k3, ?_⟩
  rcases Nat.eq_zero_or_pos n with h0 | h0
  · obtain rfl : L = [] := List.length_eq_zero_iff.1 (by omega)
    rw [h0]
    exact Reads.none_
  · obtain ⟨g, o, c', hf, _, _, _, hr⟩ := h.form (by omega)
    injection hf with e1 e2 e3
    subst e1
    rw [k1] at hr
    exact hr
theorem KL.take {w : World} {A : Option Addr} {n c m : Nat} {L : List Ky} {gb : Option Nat} (h : KL w (.slice A n c) L gb) (hm : m ≤ n) : KL w (.slice A m c) (L.take m) gb := by
  obtain ⟨A', n', c', e, h1, h2, h3⟩ := h
  injection e with e1 e2 e3
  subst e1 e2 e3
  exact ⟨A, m, c, rfl, h1.take_ hm, fun h => h2 (by omega), h3⟩

structure BSt (w0 : World) (B C sz : Nat) (W : World) (L : List Ky) (mv : Value) (M : List Ky) (kb gb : Option Nat) : Prop where
  bel : Below B w0 W
  le : B ≤ W.heap.size
  cac : CacL W B C sz L kb
  kl : KL W mv M gb
  ne : ∀ g, gb = some g → kb ≠ some g
theorem BSt.below {w0 : World} {B C sz : Nat} {W W' : World} {L : List Ky} {mv : Value} {M : List Ky} {kb gb : Option Nat} (h : BSt w0 B C sz W L mv M kb gb) (hb : Below W.heap.size W W') : BSt w0 B C sz W' L mv M kb gb :=
  ⟨h.bel.trans (hb.mono h.le), Nat.le_trans h.le hb.size, h.cac.below hb, h.kl.below hb, h.ne⟩
theorem BSt.push {w0 : World} {B C sz : Nat} {W W6 : World} {L L' : List Ky} {mv : Value} {M : List Ky} {kb gb : Option Nat} {v : Value} {e : Ending} {box : Nat} {kk : Ky} (h : BSt w0 B C sz W L mv M kb gb) (hx : Box W box kk kb) (hp : CPost W B C sz kb L' v e W6) :
    e = .returned v ∧ ∃ kb', BSt w0 B C sz W6 L' mv M kb' gb ∧ Box W6 box kk kb' := by
  obtain ⟨he, ho, kb', hkb, hc⟩ := hp
  refine ⟨he, kb', ⟨Only.below_trans h.bel ho h.le CFoot.ge, Nat.le_trans h.le ho.size, hc, h.kl.only ho (fun g hg => ?_), fun g hg => ?_⟩, ?_⟩
  · obtain ⟨_, _, _, _, _, _, h4⟩ := h.kl
    obtain ⟨cs', hb'⟩ := h4 g hg
    exact h.cac.foot_ne hb' (by decide) (h.ne g hg)
  · rcases hkb with rfl | hkb
    · exact h.ne g hg
    · intro e2
      have h1 := hkb g e2
      have h2 := h.kl.lt g hg
      omega
  · refine ⟨hx.blk.only ho (h.cac.foot_ne hx.blk (by decide) hx.ne), ?_⟩
    rcases hkb with rfl | hkb
    · exact hx.ne
    · intro e2
      have h1 := hkb _ e2
      have h2 := hx.blk.lt
      omega
/-- another list of the last keys -/
theorem BSt.other {w0 : World} {B C sz : Nat} {W W' : World} {L : List Ky} {mv mv' : Value} {M M' : List Ky} {kb gb gb' : Option Nat} (h : BSt w0 B C sz W L mv M kb gb) (hb : Below W.heap.size W W') (hk : KL W' mv' M' gb') (hg : gb' = gb ∨ ∀ g, gb' = some g → W.heap.size ≤ g) : BSt w0 B C sz W' L mv' M' kb gb' := by
  refine ⟨h.bel.trans (hb.mono h.le), Nat.le_trans h.le hb.size, h.cac.below hb, hk, fun g hg' => ?_⟩
  rcases hg with rfl | hg
  · exact h.ne g hg'
  · intro e2
    have := h.cac.kb_lt g e2
    have := hg g hg'
    omega
def BRel (w0 : World) (B C sz : Nat) (mv : Value) (W : World) : Prop := ∃ L kb gb, BSt w0 B C sz W L mv L.reverse kb gb
end Go.Proofs.Ytegdchlbmjokmaa
