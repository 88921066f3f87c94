/- The linked list in memory; join and has. -/
import Derived.Test.YtegdchlbmjokmaaLnkSpec
import Derived.Test.YtegdchlbmjokmaaOnly
import Derived.Deep.QuietTactic
import Derived.BigQuiet
import Derived.RegionTactic
import Derived.Laws.OwnMore
namespace Go.Proofs.Ytegdchlbmjokmaa
open Go.RowKit
set_option linter.unusedVariables false
open Lnk

/-- Go's number of a slot that may be none -/
def oi : Option Nat → Int
  | none => -1
  | some k => (k : Int)
def cellN (c : LS) (i : Nat) : Value :=
  if i % 4 = 0 then .int .i64 (c.val (i / 4)) else if i % 4 = 1 then .int .i64 (oi (c.nx (i / 4))) else if i % 4 = 2 then .int .i64 (oi (c.pv (i / 4))) else .bool (c.us (i / 4))
def nodesOf (n : Nat) (c : LS) : List Value := (List.range (n * 4)).map (cellN c)
theorem nodesOf_get {n : Nat} (c : LS) {i : Nat} (h : i < n * 4) : (nodesOf n c)[i]? = some (cellN c i) := by
  simp [nodesOf, h]
theorem nodesOf_set (n : Nat) (c c' : LS) (i : Nat) (u : Value) (h : ∀ j, j < n * 4 → j ≠ i → cellN c j = cellN c' j) (hi : cellN c' i = u) : (nodesOf n c).set i u = nodesOf n c' := by
  refine List.ext_getElem? fun j => ?_
  rw [List.getElem?_set]
  by_cases hj : j < n * 4
  · rw [nodesOf_get c' hj]
    by_cases e : i = j
    · subst e
      rw [if_pos rfl, if_pos (by simp [nodesOf]; exact hj), hi]
    · rw [if_neg e, nodesOf_get c hj, h j hj (fun e' => e e'.symm)]
  · have e1 : (nodesOf n c')[j]? = none := List.getElem?_eq_none (by simp [nodesOf]; omega)
    have e2 : (nodesOf n c)[j]? = none := List.getElem?_eq_none (by simp [nodesOf]; omega)
    rw [e1, e2]
    by_cases e : i = j
    · subst e
      rw [if_pos rfl, if_neg (by simp [nodesOf]; omega)]
    · rw [if_neg e]
theorem cellN_val (c : LS) (k : Nat) : cellN c (k * 4) = .int .i64 (c.val k) := by
  unfold cellN; rw [if_pos (by omega), show k * 4 / 4 = k by omega]
theorem cellN_nx (c : LS) (k : Nat) : cellN c (k * 4 + 1) = .int .i64 (oi (c.nx k)) := by
  unfold cellN; rw [if_neg (by omega), if_pos (by omega), show (k * 4 + 1) / 4 = k by omega]
theorem cellN_pv (c : LS) (k : Nat) : cellN c (k * 4 + 2) = .int .i64 (oi (c.pv k)) := by
  unfold cellN; rw [if_neg (by omega), if_neg (by omega), if_pos (by omega), show (k * 4 + 2) / 4 = k by omega]
theorem cellN_us (c : LS) (k : Nat) : cellN c (k * 4 + 3) = .bool (c.us k) := by
  unfold cellN; rw [if_neg (by omega), if_neg (by omega), if_neg (by omega), show (k * 4 + 3) / 4 = k by omega]
theorem set_nx (n : Nat) (c c' : LS) (k : Nat) (x : Option Nat) (h1 : c'.val = c.val) (h2 : c'.nx = upd c.nx k x) (h3 : c'.pv = c.pv) (h4 : c'.us = c.us) : (nodesOf n c).set (k * 4 + 1) (.int .i64 (oi x)) = nodesOf n c' := by
  refine nodesOf_set _ _ _ _ _ (fun j hj hne => ?_) ?_
  · unfold cellN
    rw [h1, h2, h3, h4]
    by_cases h : j % 4 = 1
    · rw [if_neg (by omega), if_pos h, if_neg (by omega), if_pos h, upd_other _ _ (by omega)]
    · rw [if_neg h, if_neg h]
  · rw [cellN_nx, h2, upd_same]
theorem set_pv (n : Nat) (c c' : LS) (k : Nat) (x : Option Nat) (h1 : c'.val = c.val) (h2 : c'.nx = c.nx) (h3 : c'.pv = upd c.pv k x) (h4 : c'.us = c.us) : (nodesOf n c).set (k * 4 + 2) (.int .i64 (oi x)) = nodesOf n c' := by
  refine nodesOf_set _ _ _ _ _ (fun j hj hne => ?_) ?_
  · unfold cellN
    rw [h1, h2, h3, h4]
    by_cases h : j % 4 = 2
    · rw [if_neg (by omega), if_neg (by omega), if_pos h, if_neg (by omega), if_neg (by omega), if_pos h, upd_other _ _ (by omega)]
    · rw [if_neg h, if_neg h]
  · rw [cellN_pv, h3, upd_same]
theorem set_val (n : Nat) (c c' : LS) (k : Nat) (x : Int) (h1 : c'.val = upd c.val k x) (h2 : c'.nx = c.nx) (h3 : c'.pv = c.pv) (h4 : c'.us = c.us) : (nodesOf n c).set (k * 4) (.int .i64 x) = nodesOf n c' := by
  refine nodesOf_set _ _ _ _ _ (fun j hj hne => ?_) ?_
  · unfold cellN
    rw [h1, h2, h3, h4]
    by_cases h : j % 4 = 0
    · rw [if_pos h, if_pos h, upd_other _ _ (by omega)]
    · rw [if_neg h, if_neg h]
  · rw [cellN_val, h1, upd_same]
theorem set_us (n : Nat) (c c' : LS) (k : Nat) (x : Bool) (h1 : c'.val = c.val) (h2 : c'.nx = c.nx) (h3 : c'.pv = c.pv) (h4 : c'.us = upd c.us k x) : (nodesOf n c).set (k * 4 + 3) (.bool x) = nodesOf n c' := by
  refine nodesOf_set _ _ _ _ _ (fun j hj hne => ?_) ?_
  · unfold cellN
    rw [h1, h2, h3, h4]
    by_cases h : j % 4 = 3
    · rw [if_neg (by omega), if_neg (by omega), if_neg (by omega), if_neg (by omega), if_neg (by omega), if_neg (by omega), upd_other _ _ (by omega)]
    · by_cases h0 : j % 4 = 0
      · rw [if_pos h0, if_pos h0]
      · by_cases h1 : j % 4 = 1
        · rw [if_neg h0, if_pos h1, if_neg h0, if_pos h1]
        · rw [if_neg h0, if_neg h1, if_pos (by omega), if_neg h0, if_neg h1, if_pos (by omega)]
  · rw [cellN_us, h4, upd_same]

/-- the header of a list -/
def headL (rv : Value) (c : LS) : Array Value := #[rv, .int .i64 (oi c.fi), .int .i64 (oi c.la), .int .i64 (oi c.fr), .int .i64 (c.sz : Int)]
/-- at D lies the list c, whose nodes rv lie at B or above -/
structure ListAt (w : World) (B D : Nat) (rv : Value) (c : LS) : Prop where
  base : B ≤ D
  blk : Blk w D 63 (headL rv c)
  row : w.ownsRow B 65 4 rv c.n (nodesOf c.n c)
/-- the blocks of a list -/
def foot (D : Nat) (rv : Value) (k : Nat) : Prop := k = D ∨ rv.ownBlock = some k
theorem ListAt.ge {w : World} {B D : Nat} {rv : Value} {c : LS} (h : ListAt w B D rv c) : ∀ k, foot D rv k → B ≤ k := by
  rintro k (rfl | hk)
  · exact h.base
  · exact (h.row.lt k hk).1
theorem ListAt.lt {w : World} {B D : Nat} {rv : Value} {c : LS} (h : ListAt w B D rv c) : ∀ k, foot D rv k → k < w.heap.size := by
  rintro k (rfl | hk)
  · exact h.blk.lt
  · exact (h.row.lt k hk).2
theorem ListAt.only {S : Nat → Prop} {w w' : World} {B D : Nat} {rv : Value} {c : LS} (h : ListAt w B D rv c) (ho : Only S w w') (hs : ∀ k, foot D rv k → ¬ S k) : ListAt w' B D rv c :=
  ⟨h.base, h.blk.only ho (hs D (.inl rfl)), owns_only h.row ho (fun g hg => hs g (.inr hg))⟩
theorem ListAt.apart {w : World} {B D : Nat} {rv : Value} {c : LS} (h : ListAt w B D rv c) : rv.ownBlock ≠ some D := own_blk_ne h.row h.blk (by decide)
theorem ListAt.form {w : World} {B D : Nat} {rv : Value} {c : LS} (h : ListAt w B D rv c) (hn : 0 < c.n) : ∃ g cap, rv = .slice (some ⟨g, 0, none⟩) c.n cap ∧ g ≠ D ∧ c.n ≤ cap := by
  rcases h.row.2 with ⟨_, h0⟩ | ⟨g, cap, cur, h1, h2, h3, h4, h5⟩
  · omega
  · refine ⟨g, cap, h1, ?_, h4⟩
    rintro rfl
    exact h.apart (by rw [h1]; rfl)
/-- the header turned -/
theorem ListAt.head {w : World} {B D : Nat} {rv : Value} {c : LS} (h : ListAt w B D rv c) (i : Nat) (u : Value) (c' : LS) (he : (headL rv c).setIfInBounds i u = headL rv c') (hn : c'.n = c.n) (h1 : c'.val = c.val) (h2 : c'.nx = c.nx) (h3 : c'.pv = c.pv) (h4 : c'.us = c.us) :
    ListAt (w.setCell ⟨D, i, none⟩ u) B D rv c' := by
  refine ⟨h.base, he ▸ h.blk.set_ i u, ?_⟩
  have e : nodesOf c'.n c' = nodesOf c.n c := by
    rw [hn]
    unfold nodesOf
    congr 1
    funext j
    unfold cellN
    rw [h1, h2, h3, h4]
  rw [e, hn]
  exact owns_only h.row ((Only.refl (fun k => k = D) w).setCell_ (p := ⟨D, i, none⟩) (.inl rfl) u) (fun g hg e => h.apart (by rw [← e]; exact hg))
/-- a node turned -/
theorem ListAt.node {w : World} {B D g n cap : Nat} {c : LS} (h : ListAt w B D (.slice (some ⟨g, 0, none⟩) n cap) c) (i : Nat) (u : Value) (c' : LS) (he : (nodesOf c.n c).set i u = nodesOf c'.n c') (hh : ∀ rv, headL rv c' = headL rv c) (hn : c'.n = c.n) (hcn : c.n = n) :
    ListAt (w.setCell ⟨g, i, none⟩ u) B D (.slice (some ⟨g, 0, none⟩) n cap) c' := by
  subst hcn
  refine ⟨h.base, ?_, ?_⟩
  · rw [hh]
    exact h.blk.far (fun e => h.apart (by rw [e]; rfl)) u
  · have := (h.row.stored i u).1
    rw [he] at this
    rw [hn] at this ⊢
    exact this
theorem foot_head {w : World} {D : Nat} {rv : Value} (i : Nat) (u : Value) : Only (foot D rv) w (w.setCell ⟨D, i, none⟩ u) := (Only.refl _ w).setCell_ (p := ⟨D, i, none⟩) (.inl (.inl rfl)) u
theorem foot_node {w : World} {D g n cap : Nat} (i : Nat) (u : Value) : Only (foot D (.slice (some ⟨g, 0, none⟩) n cap)) w (w.setCell ⟨g, i, none⟩ u) := (Only.refl _ w).setCell_ (p := ⟨g, i, none⟩) (.inl (.inr rfl)) u

/-- what a step leaves that keeps the nodes where they are -/
def StepPost (w : World) (B D : Nat) (rv : Value) (c : LS) (v : Value) (e : Ending) (w' : World) : Prop := e = .returned v ∧ Only (foot D rv) w w' ∧ w'.heap.size = w.heap.size ∧ ListAt w' B D rv c

set_option maxHeartbeats 1000000 in
theorem join_any (w : World) (B D : Nat) (rv : Value) (c : LS) (a b : Option Nat) (h : ListAt w B D rv c) (ha : ∀ k, a = some k → k < c.n) (hb : ∀ k, b = some k → k < c.n) :
    Calls Try.prog 35 #[.pointer (some ⟨D, 0, none⟩), .int .i64 (oi a), .int .i64 (oi b)] w (StepPost w B D rv (joinL c a b) (.tuple #[])) := by
  have y0 := h.blk.frozen 0
  have x1 : w.cell? ⟨D, 1, none⟩ = some (.int .i64 (oi c.fi)) := h.blk.cell 1
  have y1 := h.blk.frozen 1
  have x2 : w.cell? ⟨D, 2, none⟩ = some (.int .i64 (oi c.la)) := h.blk.cell 2
  have y2 := h.blk.frozen 2
  cases a with
  | none =>
    cases b with
    | none =>
      have H := Lib.hid h
      clear h ha hb
      go_enter Try.func35, Try.ntmps35
      go_wp2
      go_end0
      refine ⟨rfl, ?_, by simp, ?_⟩
      · exact (foot_head _ _).trans (foot_head (rv := rv) _ _) (fun k hk => .inl hk)
      · refine (H.out.head 1 _ { c with fi := none } rfl rfl rfl rfl rfl rfl).head 2 _ _ rfl rfl rfl rfl rfl rfl
    | some m =>
      have hm := hb m rfl
      obtain ⟨g, cap, rfl, hgD, hcap⟩ := h.form (by omega)
      have hDg : D ≠ g := fun e => hgD e.symm
      have x0 : w.cell? ⟨D, 0, none⟩ = some (.slice (some ⟨g, 0, none⟩) c.n cap) := h.blk.cell 0
      have z : w.cell? ⟨g, m * 4 + 2, none⟩ = some (.int .i64 (oi (c.pv m))) := by rw [h.row.cellAt _ (by omega), nodesOf_get _ (by omega), cellN_pv]
      have yz := h.row.frozenAt (m * 4 + 2)
      have hm' : (m : Int) < c.n := by omega
      have t1 : ((m : Int) == -1) = false := by simp
      have H := Lib.hid h
      have HM := Lib.hid hm
      clear h ha hb hm
      change Calls _ _ #[_, _, .int .i64 (m : Int)] _ _
      go_enter Try.func35, Try.ntmps35
      go_wp2
      go_end0
      refine ⟨rfl, ?_, by simp, ?_⟩
      · exact (foot_head _ _).trans (foot_node _ _) (fun k hk => .inl hk)
      · exact (H.out.head 1 _ { c with fi := some m } rfl rfl rfl rfl rfl rfl).node (m * 4 + 2) _ _ (set_pv _ _ _ _ none rfl rfl rfl rfl) (fun _ => rfl) rfl rfl
  | some k =>
    have hk := ha k rfl
    obtain ⟨g, cap, rfl, hgD, hcap⟩ := h.form (by omega)
    have hDg : D ≠ g := fun e => hgD e.symm
    have x0 : w.cell? ⟨D, 0, none⟩ = some (.slice (some ⟨g, 0, none⟩) c.n cap) := h.blk.cell 0
    have z : w.cell? ⟨g, k * 4 + 1, none⟩ = some (.int .i64 (oi (c.nx k))) := by rw [h.row.cellAt _ (by omega), nodesOf_get _ (by omega), cellN_nx]
    have yz := h.row.frozenAt (k * 4 + 1)
    have hk' : (k : Int) < c.n := by omega
    have t1 : ((k : Int) == -1) = false := by simp
    cases b with
    | none =>
      have H := Lib.hid h
      have HM := Lib.hid hk
      clear h ha hb hk
      change Calls _ _ #[_, .int .i64 (k : Int), _] _ _
      go_enter Try.func35, Try.ntmps35
      go_wp2
      go_end0
      refine ⟨rfl, ?_, by simp, ?_⟩
      · exact (foot_node _ _).trans (foot_head (rv := .slice (some ⟨g, 0, none⟩) c.n cap) _ _) (fun k hk => .inl hk)
      · exact (H.out.node (k * 4 + 1) _ { c with nx := upd c.nx k none } (set_nx _ _ _ _ none rfl rfl rfl rfl) (fun _ => rfl) rfl rfl).head 2 _ _ rfl rfl rfl rfl rfl rfl
    | some m =>
      have hm := hb m rfl
      have z2 : w.cell? ⟨g, m * 4 + 2, none⟩ = some (.int .i64 (oi (c.pv m))) := by rw [h.row.cellAt _ (by omega), nodesOf_get _ (by omega), cellN_pv]
      have yz2 := h.row.frozenAt (m * 4 + 2)
      have hm' : (m : Int) < c.n := by omega
      have t2 : ((m : Int) == -1) = false := by simp
      have d1 : k * 4 + 1 ≠ m * 4 + 2 := by omega
      have d2 : m * 4 + 2 ≠ k * 4 + 1 := by omega
      have H := Lib.hid h
      have HM := Lib.hid hk
      have HM2 := Lib.hid hm
      clear h ha hb hk hm
      change Calls _ _ #[_, .int .i64 (k : Int), .int .i64 (m : Int)] _ _
      go_enter Try.func35, Try.ntmps35
      go_wp2
      go_end0
      refine ⟨rfl, ?_, by simp, ?_⟩
      · exact (foot_node _ _).trans (foot_node (D := D) (n := c.n) (cap := cap) _ _) (fun k hk => .inl hk)
      · exact (H.out.node (k * 4 + 1) _ { c with nx := upd c.nx k (some m) } (set_nx _ _ _ _ (some m) rfl rfl rfl rfl) (fun _ => rfl) rfl rfl).node (m * 4 + 2) _ _ (set_pv _ _ _ _ (some k) rfl rfl rfl rfl) (fun _ => rfl) rfl rfl

/-- a slot that has an element -/
def hasB (c : LS) (s : Int) : Bool := decide (0 ≤ s) && (decide (s < c.n) && c.us s.toNat)
set_option maxHeartbeats 1000000 in
theorem has_any (w : World) (B D : Nat) (rv : Value) (c : LS) (s : Int) (h : ListAt w B D rv c) :
    Calls Try.prog 34 #[.pointer (some ⟨D, 0, none⟩), .int .i64 s] w fun e w' => e = .returned (.bool (hasB c s)) ∧ w = w' := by
  rcases Int.lt_or_le s 0 with h0 | h0
  · have e : hasB c s = false := by unfold hasB; rw [decide_eq_false (by omega)]; rfl
    rw [e]
    have h0' : ¬ (0 ≤ s) := by omega
    clear e
    go_enter Try.func34, Try.ntmps34
    go_wp2
    go_ret
    exact ⟨rfl, rfl⟩
  · obtain ⟨k, rfl⟩ := Int.eq_ofNat_of_zero_le h0
    rcases Nat.lt_or_ge k c.n with hk | hk
    · have e : hasB c k = c.us k := by unfold hasB; rw [decide_eq_true h0, decide_eq_true (by omega)]; rfl
      rw [e]
      obtain ⟨g, cap, rfl, hgD, hcap⟩ := h.form (by omega)
      have x0 : w.cell? ⟨D, 0, none⟩ = some (.slice (some ⟨g, 0, none⟩) c.n cap) := h.blk.cell 0
      have z : w.cell? ⟨g, k * 4 + 3, none⟩ = some (.bool (c.us k)) := by rw [h.row.cellAt _ (by omega), nodesOf_get _ (by omega), cellN_us]
      have hk' : (k : Int) < c.n := by omega
      clear e h
      go_enter Try.func34, Try.ntmps34
      go_wp2
      go_ret
      exact ⟨rfl, rfl⟩
    · have e : hasB c k = false := by unfold hasB; rw [decide_eq_true h0, decide_eq_false (by omega)]; rfl
      rw [e]
      have hk' : ¬ ((k : Int) < c.n) := by omega
      obtain ⟨ao, cap, hrv⟩ : ∃ ao cap, rv = .slice ao c.n cap := by
        rcases h.row.2 with ⟨h1, h2⟩ | ⟨g, cap, cur, h1, _⟩
        · exact ⟨none, 0, by rw [h1, h2]⟩
        · exact ⟨_, _, h1⟩
      have x0 : w.cell? ⟨D, 0, none⟩ = some (.slice ao c.n cap) := hrv ▸ h.blk.cell 0
      clear e h hrv
      go_enter Try.func34, Try.ntmps34
      go_wp2
      go_ret
      exact ⟨rfl, rfl⟩
theorem has_nil (w : World) (s : Int) : Calls Try.prog 34 #[.pointer none, .int .i64 s] w fun e w' => e = .returned (.bool false) ∧ w = w' := by
  go_enter Try.func34, Try.ntmps34
  go_wp2
  go_ret
  exact ⟨rfl, rfl⟩
end Go.Proofs.Ytegdchlbmjokmaa
