/- The linked list: Remove, MoveToBack, and what only reads. -/
import Derived.Test.YtegdchlbmjokmaaLnkW2
namespace Go.Proofs.Ytegdchlbmjokmaa
open Go.RowKit
set_option linter.unusedVariables false
open Lnk

/-- as StepPost; new memory may have come -/
def StepPost2 (w : World) (B D : Nat) (rv : Value) (c : LS) (v : Value) (e : Ending) (w' : World) : Prop := e = .returned v ∧ Only (foot D rv) w w' ∧ ListAt w' B D rv c

theorem hasB_yes {c : LS} {s : Nat} (h : s < c.n) (hu : c.us s = true) : hasB c s = true := by
  unfold hasB; rw [decide_eq_true (by omega), decide_eq_true (by omega)]; simpa using hu

set_option maxHeartbeats 1000000 in
theorem lremove_no (w : World) (B D : Nat) (rv : Value) (c : LS) (s : Int) (h : ListAt w B D rv c) (hs : hasB c s = false) :
    Calls Try.prog 33 #[.pointer (some ⟨D, 0, none⟩), .int .i64 s] w fun e w' => e = .returned (.bool false) ∧ w = w' := by
  have hh := has_any w B D rv c s h
  rw [hs] at hh
  have HH := Lib.hid hh
  clear hh h hs
  go_enter Try.func33, Try.ntmps33
  go_wp2_with fail
  refine HH.out.mono ?_
  rintro e w1 ⟨rfl, rfl⟩
  go_wp2_with fail
  go_ret
  exact ⟨rfl, rfl⟩
set_option maxHeartbeats 1000000 in
theorem lmove_no (w : World) (B D : Nat) (rv : Value) (c : LS) (s : Int) (h : ListAt w B D rv c) (hs : hasB c s = false) :
    Calls Try.prog 26 #[.pointer (some ⟨D, 0, none⟩), .int .i64 s] w fun e w' => e = .returned (.bool false) ∧ w = w' := by
  have hh := has_any w B D rv c s h
  rw [hs] at hh
  have HH := Lib.hid hh
  clear hh h hs
  go_enter Try.func26, Try.ntmps26
  go_wp2_with fail
  refine HH.out.mono ?_
  rintro e w1 ⟨rfl, rfl⟩
  go_wp2_with fail
  go_ret
  exact ⟨rfl, rfl⟩

theorem ListAt.alloc_ {w : World} {B D : Nat} {rv : Value} {c : LS} (h : ListAt w B D rv c) (o : Obj) : ListAt (w.alloc o) B D rv c :=
  h.only ((Only.refl (fun _ => False) w).alloc_ o) (fun _ _ h => h)
theorem ListAt.drew_ {w : World} {B D : Nat} {rv : Value} {c : LS} (h : ListAt w B D rv c) : ListAt w.drew B D rv c :=
  h.only ((Only.refl (fun _ => False) w).drew_) (fun _ _ h => h)
/-- a slot that can be taken out -/
structure SlotOk (c : LS) (s : Nat) : Prop where
  lt : s < c.n
  us : c.us s = true
  nx : ∀ k, c.nx s = some k → k < c.n
  pv : ∀ k, c.pv s = some k → k < c.n
  la : ∀ k, (joinL c (c.pv s) (c.nx s)).la = some k → k < c.n
  sz : 0 < c.sz
  szm : c.sz ≤ 1048576
theorem slotAt_lt {c : LS} {r : R} (h : Rep c r) (j k : Nat) (hk : slotAt r.E j = some k) : k < c.n := by
  unfold slotAt at hk
  cases hx : r.E[j]? with
  | none => rw [hx] at hk; cases hk
  | some x =>
    rw [hx] at hk
    injection hk with hk
    rw [h.n, ← hk]
    exact (h.el j x hx).1
theorem rep_slot {c : LS} {r : R} (h : Rep c r) {i : Nat} {x : Nat × Int} (hi : r.E[i]? = some x) (hm : r.E.length ≤ 1048576) : SlotOk c x.1 := by
  obtain ⟨x1, x2⟩ := h.el i x hi
  obtain ⟨_, xn, xp⟩ := h.ch.el i x hi
  have hil : i < r.E.length := by
    rcases Nat.lt_or_ge i r.E.length with h | h
    · exact h
    · rw [List.getElem?_eq_none h] at hi; cases hi
  refine ⟨by rw [h.n]; exact x1, x2, ?_, ?_, ?_, by rw [h.sz]; omega, by rw [h.sz]; exact hm⟩
  · intro k hk
    rw [xn] at hk
    exact slotAt_lt h _ _ hk
  · intro k hk
    rw [xp] at hk
    cases i with
    | zero => cases hk
    | succ i => exact slotAt_lt h _ _ hk
  · intro k hk
    rw [(chain_cut h.ch hi).la] at hk
    unfold lastAt at hk
    cases hl : (without r.E i).length with
    | zero => rw [hl] at hk; cases hk
    | succ m =>
      rw [hl, before_succ, slotAt_without _ _ _ hil] at hk
      split at hk
      · exact slotAt_lt h _ _ hk
      · exact slotAt_lt h _ _ hk

set_option maxHeartbeats 2000000 in
theorem lmove_any (w : World) (B D : Nat) (rv : Value) (c : LS) (s : Nat) (h : ListAt w B D rv c) (hB : B ≤ w.heap.size) (hok : SlotOk c s) :
    Calls Try.prog 26 #[.pointer (some ⟨D, 0, none⟩), .int .i64 (s : Int)] w (StepPost2 w B D rv (moveL c s) (.bool true)) := by
  have hh := has_any w B D rv c s h
  rw [hasB_yes hok.lt hok.us] at hh
  have HH := Lib.hid hh
  have hs := hok.lt
  obtain ⟨g, cap, rfl, hgD, hcap⟩ := h.form (by omega)
  have x0 : w.cell? ⟨D, 0, none⟩ = some (.slice (some ⟨g, 0, none⟩) c.n cap) := h.blk.cell 0
  have z0 : w.cell? ⟨g, s * 4, none⟩ = some (.int .i64 (c.val s)) := by rw [h.row.cellAt _ (by omega), nodesOf_get _ (by omega), cellN_val]
  have z1 : w.cell? ⟨g, s * 4 + 1, none⟩ = some (.int .i64 (oi (c.nx s))) := by rw [h.row.cellAt _ (by omega), nodesOf_get _ (by omega), cellN_nx]
  have z2 : w.cell? ⟨g, s * 4 + 2, none⟩ = some (.int .i64 (oi (c.pv s))) := by rw [h.row.cellAt _ (by omega), nodesOf_get _ (by omega), cellN_pv]
  have z3 : w.cell? ⟨g, s * 4 + 3, none⟩ = some (.bool (c.us s)) := by rw [h.row.cellAt _ (by omega), nodesOf_get _ (by omega), cellN_us]
  have hs' : (s : Int) < c.n := by omega
  have H := Lib.hid h
  have HS := Lib.hid hok
  clear hh h hs hok
  go_enter Try.func26, Try.ntmps26
  go_wp2_with fail
  refine HH.out.mono ?_
  rintro e w1 ⟨rfl, rfl⟩
  go_wp2_with fail
  refine (join_any _ B D _ c (c.pv s) (c.nx s) (H.out.alloc_ _) HS.out.pv HS.out.nx).mono ?_
  rintro e w1 ⟨rfl, ho1, hz1, h1⟩
  have x2 : w1.cell? ⟨D, 2, none⟩ = some (.int .i64 (oi (joinL c (c.pv s) (c.nx s)).la)) := h1.blk.cell 2
  have H1 := Lib.hid h1
  have HO1 := Lib.hid ho1
  clear h1 ho1 hz1
  go_wp2_with fail
  refine (join_any w1 B D _ (joinL c (c.pv s) (c.nx s)) (joinL c (c.pv s) (c.nx s)).la (some s) H1.out (fun k hk => by rw [joinL_n]; exact HS.out.la k hk) (fun k hk => by injection hk with hk; rw [joinL_n, ← hk]; exact HS.out.lt)).mono ?_
  rintro e w2 ⟨rfl, ho2, hz2, h2⟩
  have H2 := Lib.hid h2
  have HO2 := Lib.hid ho2
  clear h2 ho2 hz2
  go_wp2_with fail
  refine (join_any w2 B D _ (joinL (joinL c (c.pv s) (c.nx s)) (joinL c (c.pv s) (c.nx s)).la (some s)) (some s) none H2.out (fun k hk => by injection hk with hk; rw [joinL_n, joinL_n, ← hk]; exact HS.out.lt) (fun k hk => by cases hk)).mono ?_
  rintro e w3 ⟨rfl, ho3, hz3, h3⟩
  have H3 := Lib.hid h3
  have HO3 := Lib.hid ho3
  clear h3 ho3 hz3
  go_wp2_with fail
  go_ret
  exact ⟨rfl, (((Only.refl _ w).alloc_ _).trans HO1.out (fun k hk => .inl hk)).trans (HO2.out.trans HO3.out (fun k hk => .inl hk)) (fun k hk => .inl hk), H3.out⟩

set_option maxHeartbeats 2000000 in
theorem lremove_any (w : World) (B D : Nat) (rv : Value) (c : LS) (s : Nat) (h : ListAt w B D rv c) (hB : B ≤ w.heap.size) (hok : SlotOk c s) :
    Calls Try.prog 33 #[.pointer (some ⟨D, 0, none⟩), .int .i64 (s : Int)] w (StepPost2 w B D rv (removeL c s) (.bool true)) := by
  have hh := has_any w B D rv c s h
  rw [hasB_yes hok.lt hok.us] at hh
  have HH := Lib.hid hh
  have hs := hok.lt
  have hsz1 := hok.sz
  have hsz2 := hok.szm
  obtain ⟨g, cap, rfl, hgD, hcap⟩ := h.form (by omega)
  have hDg : D ≠ g := fun e => hgD e.symm
  have x0 : w.cell? ⟨D, 0, none⟩ = some (.slice (some ⟨g, 0, none⟩) c.n cap) := h.blk.cell 0
  have z0 : w.cell? ⟨g, s * 4, none⟩ = some (.int .i64 (c.val s)) := by rw [h.row.cellAt _ (by omega), nodesOf_get _ (by omega), cellN_val]
  have z1 : w.cell? ⟨g, s * 4 + 1, none⟩ = some (.int .i64 (oi (c.nx s))) := by rw [h.row.cellAt _ (by omega), nodesOf_get _ (by omega), cellN_nx]
  have z2 : w.cell? ⟨g, s * 4 + 2, none⟩ = some (.int .i64 (oi (c.pv s))) := by rw [h.row.cellAt _ (by omega), nodesOf_get _ (by omega), cellN_pv]
  have z3 : w.cell? ⟨g, s * 4 + 3, none⟩ = some (.bool (c.us s)) := by rw [h.row.cellAt _ (by omega), nodesOf_get _ (by omega), cellN_us]
  have hs' : (s : Int) < c.n := by omega
  have H := Lib.hid h
  have HS := Lib.hid hok
  clear hh h hs hok
  go_enter Try.func33, Try.ntmps33
  go_wp2_with fail
  refine HH.out.mono ?_
  rintro e w1 ⟨rfl, rfl⟩
  go_wp2_with fail
  refine (join_any _ B D _ c (c.pv s) (c.nx s) (H.out.alloc_ _) HS.out.pv HS.out.nx).mono ?_
  rintro e w1 ⟨rfl, ho1, hz1, h1⟩
  obtain ⟨d, hd⟩ : ∃ d, joinL c (c.pv s) (c.nx s) = d := ⟨_, rfl⟩
  have hdn : d.n = c.n := by rw [← hd, joinL_n]
  have hdz : d.sz = c.sz := by rw [← hd, joinL_sz]
  have hrem : Hid (removeL c s = freeL d s) := by show _ = _; rw [← hd]; rfl
  rw [hd] at h1
  clear z0 z1 z2 z3 x0
  have hsl := HS.out.lt
  have x0 : w1.cell? ⟨D, 0, none⟩ = some (.slice (some ⟨g, 0, none⟩) c.n cap) := h1.blk.cell 0
  have x3 : w1.cell? ⟨D, 3, none⟩ = some (.int .i64 (oi d.fr)) := h1.blk.cell 3
  have x4 : w1.cell? ⟨D, 4, none⟩ = some (.int .i64 (c.sz : Int)) := by rw [← hdz]; exact h1.blk.cell 4
  have y3 := h1.blk.frozen 3
  have y4 := h1.blk.frozen 4
  have hrow : w1.ownsRow B 65 4 (.slice (some ⟨g, 0, none⟩) c.n cap) c.n (nodesOf c.n d) := by have := h1.row; rw [hdn] at this; exact this
  have z0 : w1.cell? ⟨g, s * 4, none⟩ = some (.int .i64 (d.val s)) := by rw [hrow.cellAt _ (by omega), nodesOf_get _ (by omega), cellN_val]
  have z1 : w1.cell? ⟨g, s * 4 + 1, none⟩ = some (.int .i64 (oi (d.nx s))) := by rw [hrow.cellAt _ (by omega), nodesOf_get _ (by omega), cellN_nx]
  have z2 : w1.cell? ⟨g, s * 4 + 2, none⟩ = some (.int .i64 (oi (d.pv s))) := by rw [hrow.cellAt _ (by omega), nodesOf_get _ (by omega), cellN_pv]
  have z3 : w1.cell? ⟨g, s * 4 + 3, none⟩ = some (.bool (d.us s)) := by rw [hrow.cellAt _ (by omega), nodesOf_get _ (by omega), cellN_us]
  have yz0 := hrow.frozenAt (s * 4)
  have yz1 := hrow.frozenAt (s * 4 + 1)
  have yz2 := hrow.frozenAt (s * 4 + 2)
  have yz3 := hrow.frozenAt (s * 4 + 3)
  have H1 := Lib.hid h1
  have HO1 := Lib.hid ho1
  have HDN := Lib.hid hdn
  have HDZ := Lib.hid hdz
  clear h1 ho1 hz1 hd hrow hdn hdz hsl
  go_wp2_with fail
  go_region
  all_goals
    go_wp2
    go_ret
    have H1o := H1.out
    have h2 := H1o.node (s * 4) (.int .i64 0) { d with val := upd d.val s 0 } (set_val _ _ _ _ _ rfl rfl rfl rfl) (fun _ => rfl) rfl HDN.out
    have h3 := h2.node (s * 4 + 1) (.int .i64 (oi d.fr)) { d with val := upd d.val s 0, nx := upd d.nx s d.fr } (set_nx _ _ _ _ d.fr rfl rfl rfl rfl) (fun _ => rfl) rfl HDN.out
    have h4 := h3.node (s * 4 + 2) (.int .i64 0) { d with val := upd d.val s 0, nx := upd d.nx s d.fr, pv := upd d.pv s (some 0) } (set_pv _ _ _ _ (some 0) rfl rfl rfl rfl) (fun _ => rfl) rfl HDN.out
    have h5 := h4.node (s * 4 + 3) (.bool false) { d with val := upd d.val s 0, nx := upd d.nx s d.fr, pv := upd d.pv s (some 0), us := upd d.us s false } (set_us _ _ _ _ _ rfl rfl rfl rfl) (fun _ => rfl) rfl HDN.out
    have h6 := (h5.head 3 (.int .i64 (s : Int)) { d with val := upd d.val s 0, nx := upd d.nx s d.fr, pv := upd d.pv s (some 0), us := upd d.us s false, fr := some s } rfl rfl rfl rfl rfl rfl).head 4 (.int .i64 ((c.sz : Int) - 1)) (freeL d s) (by
      have e : ((c.sz : Int) - 1) = ((d.sz - 1 : Nat) : Int) := by rw [HDZ.out]; omega
      rw [e]; rfl) rfl rfl rfl rfl rfl
    rw [hrem.out]
    refine ⟨rfl, ?_, h6.drew_⟩
    exact Only.drew_ ((((((((((Only.refl _ w).alloc_ _).trans HO1.out (fun k hk => .inl hk)).trans (foot_node _ _) (fun k hk => .inl hk)).trans (foot_node (D := D) (n := c.n) (cap := cap) _ _) (fun k hk => .inl hk)).trans (foot_node (D := D) (n := c.n) (cap := cap) _ _) (fun k hk => .inl hk)).trans (foot_node (D := D) (n := c.n) (cap := cap) _ _) (fun k hk => .inl hk)).trans (foot_head _ _) (fun k hk => .inl hk)).trans (foot_head _ _) (fun k hk => .inl hk)))

theorem lfirst_any (w : World) (B D : Nat) (rv : Value) (c : LS) (h : ListAt w B D rv c) :
    Calls Try.prog 28 #[.pointer (some ⟨D, 0, none⟩)] w fun e w' => e = .returned (.int .i64 (oi c.fi)) ∧ w = w' := by
  have x1 : w.cell? ⟨D, 1, none⟩ = some (.int .i64 (oi c.fi)) := h.blk.cell 1
  clear h
  go_enter Try.func28, Try.ntmps28
  go_wp2
  go_ret
  exact ⟨rfl, rfl⟩
theorem lvalue_yes (w : World) (B D : Nat) (rv : Value) (c : LS) (s : Nat) (h : ListAt w B D rv c) (hs : s < c.n) (hu : c.us s = true) :
    Calls Try.prog 27 #[.pointer (some ⟨D, 0, none⟩), .int .i64 (s : Int)] w fun e w' => e = .returned (.tuple #[.int .i64 (c.val s), .bool true]) ∧ w = w' := by
  have hh := has_any w B D rv c s h
  rw [hasB_yes hs hu] at hh
  have HH := Lib.hid hh
  obtain ⟨g, cap, rfl, hgD, hcap⟩ := h.form (by omega)
  have x0 : w.cell? ⟨D, 0, none⟩ = some (.slice (some ⟨g, 0, none⟩) c.n cap) := h.blk.cell 0
  have z0 : w.cell? ⟨g, s * 4, none⟩ = some (.int .i64 (c.val s)) := by rw [h.row.cellAt _ (by omega), nodesOf_get _ (by omega), cellN_val]
  have hs' : (s : Int) < c.n := by omega
  clear hh h hs hu
  go_enter Try.func27, Try.ntmps27
  go_wp2_with fail
  refine HH.out.mono ?_
  rintro e w1 ⟨rfl, rfl⟩
  go_wp2_with fail
  go_ret2
  exact ⟨rfl, rfl⟩
theorem lvalue_no (w : World) (B D : Nat) (rv : Value) (c : LS) (s : Int) (h : ListAt w B D rv c) (hs : hasB c s = false) :
    Calls Try.prog 27 #[.pointer (some ⟨D, 0, none⟩), .int .i64 s] w fun e w' => e = .returned (.tuple #[.int .i64 0, .bool false]) ∧ w = w' := by
  have hh := has_any w B D rv c s h
  rw [hs] at hh
  have HH := Lib.hid hh
  clear hh h hs
  go_enter Try.func27, Try.ntmps27
  go_wp2_with fail
  refine HH.out.mono ?_
  rintro e w1 ⟨rfl, rfl⟩
  go_wp2_with fail
  go_ret2
  exact ⟨rfl, rfl⟩
end Go.Proofs.Ytegdchlbmjokmaa
