/- SlabStale: what holds in memory behind each step. -/
import Derived.Test.YtnihkjhejjeepaaSlbHd
namespace Go.Proofs.Ytnihkjhejjeepaa
open Go.RowKit
set_option linter.unusedVariables false
set_option linter.unusedSimpArgs false
open ShaW Sha

structure StSt (w0 : World) (B C D n N : Nat) (m : RSt) (live dead : List Hd) (lv dv : Value) (W : World) : Prop where
  bel : Below B w0 W
  le : B ≤ W.heap.size
  num : NumAt W B D n N
  slb : SlR W B C m
  lr : W.ownsRow B 43 2 lv live.length (hdlsV live)
  dr : W.ownsRow B 43 2 dv dead.length (hdlsV dead)
  ne : ∀ g, lv.ownBlock = some g → dv.ownBlock ≠ some g
theorem StSt.below {w0 : World} {B C D n N : Nat} {m : RSt} {live dead : List Hd} {lv dv : Value} {W W' : World} (h : StSt w0 B C D n N m live dead lv dv W) (hb : Below W.heap.size W W') : StSt w0 B C D n N m live dead lv dv W' :=
  ⟨h.bel.trans (hb.mono h.le), Nat.le_trans h.le hb.size, h.num.below_ h.le hb, h.slb.below hb, owns_below h.lr hb, owns_below h.dr hb, h.ne⟩
theorem StSt.next {w0 : World} {B C D n N : Nat} {m : RSt} {live dead : List Hd} {lv dv : Value} {W W' : World} (h : StSt w0 B C D n N m live dead lv dv W) (ho : Only (fun k => k = D) W W') (hn : NumAt W' B D n (N + 1)) : StSt w0 B C D n (N + 1) m live dead lv dv W' := by
  obtain ⟨cs, hk⟩ := h.num.blk
  exact ⟨Only.below_trans h.bel ho h.le (fun k hk => by rw [hk]; exact h.num.ge), Nat.le_trans h.le ho.size, hn, h.slb.num h.num ho, owns_only h.lr ho (fun g hg e => own_blk_ne h.lr hk (by decide) (e ▸ hg)), owns_only h.dr ho (fun g hg e => own_blk_ne h.dr hk (by decide) (e ▸ hg)), h.ne⟩
theorem StSt.slab {w0 : World} {B C D n N : Nat} {m m' : RSt} {live dead : List Hd} {lv dv : Value} {W W' : World} (h : StSt w0 B C D n N m live dead lv dv W) (ho : Only (SFoot W B) W W') (hs : SlR W' B C m') : StSt w0 B C D n N m' live dead lv dv W' := by
  obtain ⟨cs, hk⟩ := h.num.blk
  exact ⟨Only.below_trans h.bel ho h.le SFoot.ge, Nat.le_trans h.le ho.size, h.num.only ho h.le SFoot.ge (SFoot.not hk (by decide)), hs, owns_only h.lr ho (SFoot.own h.lr (by decide)), owns_only h.dr ho (SFoot.own h.dr (by decide)), h.ne⟩
theorem foot_of_row {w : World} {base size n : Nat} {v : Value} {xs : List Value} (h : w.ownsRow base 43 size v n xs) : ∀ g, v.ownBlock = some g → ∃ t cs, Blk w g t cs ∧ t ∉ [71, 75, 5, 3] := fun g hg => by
  rcases h.2 with ⟨h5, _⟩ | ⟨k, cap, cur, h5, _, h6, _⟩
  · rw [h5] at hg; cases hg
  · rw [h5] at hg
    injection hg with hg
    subst hg
    exact ⟨_, _, h6, by decide⟩
theorem own_cap {w : World} {base n c : Nat} {e : TypeId} {A : Option Addr} {xs : List Value} {size : Nat} (h : w.ownsRow base e size (.slice A n c) n xs) : n ≤ c ∧ c ≤ 9223372036854775807 := by
  rcases h.2 with ⟨h1, h2⟩ | ⟨_, cap, _, h1, _, _, h2, h3, _⟩
  · injection h1 with _ _ h1; subst h1; omega
  · injection h1 with _ _ h1; subst h1; unfold maxLen at h3; exact ⟨h2, h3⟩
/-- a list grew -/
theorem StSt.live {w0 : World} {B C D n N : Nat} {m : RSt} {live live' dead : List Hd} {lv lv' dv : Value} {W W' : World} (h : StSt w0 B C D n N m live dead lv dv W) (hg : W.grownBy W' lv.ownBlock) (hr : W'.ownsRow B 43 2 lv' live'.length (hdlsV live')) (hat : lv'.ownBlock = lv.ownBlock ∨ lv'.ownBlock = some W.heap.size) : StSt w0 B C D n N m live' dead lv' dv W' := by
  have ho := Only.of_grown hg
  obtain ⟨cs, hk⟩ := h.num.blk
  refine ⟨Only.below_trans h.bel ho h.le (fun g hg => (h.lr.lt g hg).1), Nat.le_trans h.le ho.size, h.num.only ho h.le (fun g hg => (h.lr.lt g hg).1) (own_blk_ne h.lr hk (by decide)), h.slb.apart ho (foot_of_row h.lr), hr, owns_only h.dr ho (fun g h1 h2 => h.ne g h2 h1), fun g h1 => ?_⟩
  rcases hat with h2 | h2
  · exact h.ne g (h2.symm.trans h1)
  · intro h3
    rw [h2] at h1
    injection h1 with h1
    have := (h.dr.lt g h3).2
    omega
theorem StSt.dead {w0 : World} {B C D n N : Nat} {m : RSt} {live dead dead' : List Hd} {lv dv dv' : Value} {W W' : World} (h : StSt w0 B C D n N m live dead lv dv W) (hg : W.grownBy W' dv.ownBlock) (hr : W'.ownsRow B 43 2 dv' dead'.length (hdlsV dead')) (hat : dv'.ownBlock = dv.ownBlock ∨ dv'.ownBlock = some W.heap.size) : StSt w0 B C D n N m live dead' lv dv' W' := by
  have ho := Only.of_grown hg
  obtain ⟨cs, hk⟩ := h.num.blk
  refine ⟨Only.below_trans h.bel ho h.le (fun g hg => (h.dr.lt g hg).1), Nat.le_trans h.le ho.size, h.num.only ho h.le (fun g hg => (h.dr.lt g hg).1) (own_blk_ne h.dr hk (by decide)), h.slb.apart ho (foot_of_row h.dr), owns_only h.lr ho (fun g h1 h2 => h.ne g h1 h2), hr, fun g h1 h3 => ?_⟩
  rcases hat with h2 | h2
  · exact h.ne g h1 (h2.symm.trans h3)
  · rw [h2] at h3
    injection h3 with h3
    have := (h.lr.lt g h1).2
    omega
/-- a new list -/
theorem StSt.fresh {w0 : World} {B C D n N : Nat} {m : RSt} {live live' dead : List Hd} {lv lv' dv : Value} {W W' : World} (h : StSt w0 B C D n N m live dead lv dv W) (hb : Below W.heap.size W W') (hr : W'.ownsRow W.heap.size 43 2 lv' live'.length (hdlsV live')) : StSt w0 B C D n N m live' dead lv' dv W' := by
  have h' := h.below hb
  exact ⟨h'.bel, h'.le, h'.num, h'.slb, owns_base2 hr h.le, h'.dr, fun g h1 h2 => by have := (hr.lt g h1).1; have := (h.dr.lt g h2).2; omega⟩
/-- an addition of nothing -/
def Add0 (w0 : World) (B C D n N : Nat) (live dead : List Hd) (lv dv : Value) (e : Ending) (W' : World) : Prop :=
  (∃ m, e = .returned (.tuple #[hdl 0 0, .bool false]) ∧ StSt w0 B C D n N m live dead lv dv W' ∧ PlSt m live dead N) ∨
  (∃ m s u, e = .returned (.tuple #[hdl ((s : Nat) : Int) ((u : Nat) : Int), .bool true]) ∧ StSt w0 B C D n N m live dead lv dv W' ∧ PlSt m (live ++ [(s, u)]) dead N)
theorem st_add (w0 : World) (B C D n N : Nat) (m : RSt) (live dead : List Hd) (lv dv : Value) (W : World) (h : StSt w0 B C D n (N + 1) m live dead lv dv W) (hp : PlSt m live dead N) (hN : N ≤ 300) (o : Int) :
    Calls Try.prog 14 #[.pointer (some ⟨C, 0, none⟩), .agg (litOf (.slice none 0 0) o)] W (Add0 w0 B C D n (N + 1) live dead lv dv) := by
  have hrd : EntRd W (entOf 0 (fun _ => 0) o) (.slice none 0 0) (.slice none 0 0) := ⟨RdT.nil _ _, RdT.nil _ _⟩
  have hsm : Small (entOf 0 (fun _ => 0) o) := ⟨Nat.zero_le 16, Nat.zero_le 16⟩
  rw [← litOf_eq 0 (fun _ => 0) (.slice none 0 0) o]
  cases hf : m.full with
  | true =>
    refine (radd_full W B C m N h.slb h.le hp.wf (by omega) _ _ _ hrd hsm hf).mono ?_
    rintro e w' ⟨rfl, hb'⟩
    exact .inl ⟨m, rfl, h.below hb', hp.more (by omega)⟩
  | false =>
    refine (radd_ok W B C m N h.slb h.le hp.wf (by omega) _ _ _ hrd hsm hf).mono ?_
    rintro e w' ⟨rfl, ho, hs'⟩
    exact .inr ⟨_, m.slot, m.use, rfl, h.slab ho hs', hp.add hf hsm⟩
/-- one that lives is removed -/
theorem st_rem (w0 : World) (B C D n N : Nat) (m : RSt) (live dead : List Hd) (lv dv : Value) (W : World) (h : StSt w0 B C D n (N + 1) m live dead lv dv W) (hp : PlSt m live dead N) (hN : N ≤ 300) (i : Nat) (x : Hd) (hx : live[i]? = some x) :
    Calls Try.prog 18 #[.pointer (some ⟨C, 0, none⟩), hdl (x.1 : Int) (x.2 : Int)] W fun e W' => e = .returned (.bool true) ∧ StSt w0 B C D n (N + 1) (m.rem x.1) live dead lv dv W' ∧ PlSt (m.rem x.1) (lack live i) (dead ++ [x]) (N + 1) := by
  obtain ⟨p, h1, h2, h3⟩ := hp.liv x (List.mem_of_getElem? hx)
  refine (rrem_ok W B C m N h.slb h.le hp.wf (by omega) x.1 _ p h1 h2 (by omega)).mono ?_
  rintro e w' ⟨rfl, ho, hs'⟩
  exact ⟨rfl, h.slab ho hs', hp.rem hx⟩
/-- one that is gone -/
theorem st_get (w0 : World) (B C D n N : Nat) (m : RSt) (live dead : List Hd) (lv dv : Value) (W : World) (h : StSt w0 B C D n N m live dead lv dv W) (hp : PlSt m live dead N) (hN : N ≤ 300) (x : Hd) (hx : x ∈ dead) :
    Calls Try.prog 15 #[.pointer (some ⟨C, 0, none⟩), hdl (x.1 : Int) (x.2 : Int)] W fun e W' => e = .returned (.tuple #[entV ent0 (.slice none 0 0) (.slice none 0 0), .bool false]) ∧ Below W.heap.size W W' :=
  rget_no W B C m N h.slb hp.wf (by omega) _ _ (hp.dead_no hx)
theorem lack_len {L : List Hd} {i : Nat} (h : i < L.length) : (lack L i).length = L.length - 1 := by
  unfold lack
  rw [List.length_append, List.length_take, List.length_drop]
  omega
theorem hdlsV_lack (L : List Hd) (i : Nat) : hdlsV (lack L i) = hdlsV (L.take i) ++ hdlsV (L.drop (i + 1)) := by unfold lack; rw [hdlsV_append]
theorem hempty_own (w : World) : (w.alloc (.cells #[] 43)).ownsRow w.heap.size 43 2 (.slice (some ⟨w.heap.size, 0, none⟩) 0 0) 0 [] :=
  ⟨rfl, .inr ⟨w.heap.size, 0, #[], rfl, Nat.le_refl _, heap_alloc_new _ _, Nat.le_refl _, Nat.zero_le _, rfl, rfl⟩⟩
theorem hreads_take {w : World} {B : Nat} {A : Option Addr} {L : List Hd} (h : Reads w B 2 A L.length (hdlsV L)) {i : Nat} (hi : i ≤ L.length) : Reads w B 2 A i (hdlsV (L.take i)) := by
  refine ⟨by rw [hdlsV_len, List.length_take]; omega, fun hp => ?_⟩
  obtain ⟨ad, h1, h2, h3⟩ := h.2 (by omega)
  refine ⟨ad, h1, h2, fun j u hu => h3 j u ?_⟩
  rw [← List.take_append_drop i L, hdlsV_append]
  exact (List.getElem?_append_left (List.getElem?_eq_some_iff.1 hu).1).trans hu
theorem hreads_drop {w : World} {B : Nat} {g o : Nat} {L : List Hd} {c : Nat} (h : Reads w B 2 (some ⟨g, o, none⟩) L.length (hdlsV L)) {i : Nat} (hi : i ≤ L.length) (hc : L.length ≤ c) (hne : c ≠ i) : Reads w B 2 (some ⟨g, o + i * 2, none⟩) (L.length - i) (hdlsV (L.drop i)) := by
  have h0 := h.cut (k := i) (cap := c) hi hc
  rw [if_neg hne] at h0
  have e : (hdlsV L).drop (i * 2) = hdlsV (L.drop i) := flat_drop _ _ hcells_len L i
  rw [e] at h0
  simpa [add_flat] using h0
end Go.Proofs.Ytnihkjhejjeepaa
