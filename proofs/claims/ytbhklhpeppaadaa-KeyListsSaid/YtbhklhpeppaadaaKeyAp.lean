/- append of a key to a list of the call's own: the new list, and the old one as it was. -/
import Derived.Test.YtbhklhpeppaadaaKeyLk
import Derived.ArgAppend
import Derived.Deep.DeepAppendRoom
namespace Go.Proofs.Ytbhklhpeppaadaa
open Go.RowKit
set_option linter.unusedVariables false
set_option linter.unusedSimpArgs false
open ShaW Sha

theorem wpList_append_key {ops : Array Oper} {rest : List Oper} {o : Oper} {a : Act} {w : World} {Q : Exit → Act → World → Prop} (hgd : o.guard = none) (s x : Operand)
    (ho : o.op = .call { callee := .builtin .append, args := #[s, x], argTypes := #[36, 36] })
    (base : Nat) (A : Option Addr) (n c : Nat) (ps : List Ky) (hs : a.eval s = .slice A n c) (hown : w.ownsRow base 25 32 (.slice A n c) n (keysOf ps)) (k : Ky) (ad : Addr)
    (hx : a.eval x = .slice (some ad) 1 1) (hnews : ∀ j u, (keysOf [k])[j]? = some u → w.cell? (ad.add j) = some u) (hn : n ≤ 1000) (hbase : base ≤ w.heap.size)
    (h : ∀ A2 c2 w', KeysAt w' A2 (n + 1) c2 (ps ++ [k]) → KeysAt w' A n c ps → Below base w w' → wpList Try.prog ops Q rest (a.put o.dst (.slice A2 (n + 1) c2)) w') :
    wpList Try.prog ops Q (o :: rest) a w := by
  obtain ⟨i0, hi0, hz0, hz1, hz2⟩ := info_parts key_info
  have hk0 := KeysAt.of_own hown
  have hlen : ps.length = n := hk0.1
  have hnl : (keysOf [k]).length = 1 * 32 := by rw [keysOf_len]; rfl
  rcases Nat.lt_or_ge n c with hroom | hfull
  · rcases hown.2 with ⟨hv, _⟩ | ⟨g, cap, cur, hv, hb, _⟩
    · injection hv with _ _ h3
      omega
    · injection hv with h1 _ h3
      subst h1 h3
      refine wpList_append_own_spare w hgd s x 36 ho base 25 i0 32 Try.underlying36 hi0 hz1 g n c _ hs hown ad 1 1 _ hx hnl hnews (keysOf_oneCell _) hroom ?_
      intro w' hown' hg
      rw [← keysOf_append] at hown'
      have hk1 := KeysAt.of_own hown'
      have hk2 := hk1.take_ (k := n) (by omega)
      rw [← hlen, List.take_left] at hk2
      rw [hlen] at hk2
      exact h _ _ w' hk1 hk2 ((Below.refl base w).grown hg hbase (fun q e => by injection e with e; rw [← e]; exact hb))
  · have hnc : n ≤ c := hk0.2.1
    obtain rfl : n = c := by omega
    refine wpList_append_grows w hgd s x 36 ho 25 i0 _ 32 32 Try.underlying36 hi0 hz0 hz1 hz2 rfl (by omega) A n n (keysOf ps) hs (fun e => ?_) (by rw [keysOf_len, hlen]) (fun b e => ?_) ad 1 1 _ hx hnl hnews (keysOf_oneCell _) (by omega) (by unfold maxLen; omega) (by omega) ?_
    · rcases hown.2 with ⟨hv, _⟩ | ⟨g, cap, cur, hv, hb, _⟩
      · injection hv with _ h2 h3
        exact ⟨h2, h3⟩
      · injection hv with h1 _ h3
        rw [h1] at e; cases e
    · rcases hown.2 with ⟨hv, _⟩ | ⟨g, cap, cur, hv, hb, _⟩
      · injection hv with h1 _ _
        rw [h1] at e; cases e
      · injection hv with h1 _ h3
        subst h1
        injection e with e
        subst e
        exact fun j u hu => hown.cells (g := g) rfl j u hu
    · intro v' w' hown' hg
      rw [← keysOf_append] at hown'
      obtain ⟨A2, c2, rfl⟩ := own_form hown'
      have hbw : Below w.heap.size w w' := (Below.refl _ w).grown hg (Nat.le_refl _) (fun q e => by cases e)
      exact h A2 c2 w' (KeysAt.of_own hown') (hk0.below hbw) (hbw.mono hbase)
end Go.Proofs.Ytbhklhpeppaadaa
