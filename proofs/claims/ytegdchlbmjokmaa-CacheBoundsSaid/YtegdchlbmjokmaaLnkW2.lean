/- The linked list: New, take. -/
import Derived.Test.YtegdchlbmjokmaaLnkW1
namespace Go.Proofs.Ytegdchlbmjokmaa
open Go.RowKit
set_option linter.unusedVariables false
open Lnk

theorem node_info : (Try.prog.info? 65).map (fun i => (i.zero, i.size, i.bytes)) = some (some (.agg #[.int .i64 0, .int .i64 0, .int .i64 0, .bool false]), 4, 32) := by kernel_rfl

/-- what a step leaves that may move the nodes -/
def MovePost (w : World) (B D : Nat) (rv : Value) (c : LS) (v : Value) (e : Ending) (w' : World) : Prop :=
  e = .returned v ∧ Only (foot D rv) w w' ∧ ∃ rv', ListAt w' B D rv' c ∧ ∀ k, foot D rv' k → foot D rv k ∨ w.heap.size ≤ k

theorem lnew_any (w : World) : Calls Try.prog 25 #[] w fun e w' => e = .returned (.pointer (some ⟨w.heap.size, 0, none⟩)) ∧ Below w.heap.size w w' ∧ w'.heap.size = w.heap.size + 1 ∧ ListAt w' w.heap.size w.heap.size (.slice none 0 0) emptyL := by
  go_enter Try.func25, Try.ntmps25
  go_wp2
  go_ret
  exact ⟨rfl, (Below.refl _ _).alloc (Nat.le_refl _) _, by simp, Nat.le_refl _, heap_alloc_new _ _, World.ownsRow_nil _ _ _ _⟩

theorem nodesOf_snoc (c c' : LS) (h1 : ∀ j, j < c.n → c'.val j = c.val j) (h2 : ∀ j, j < c.n → c'.nx j = c.nx j) (h3 : ∀ j, j < c.n → c'.pv j = c.pv j) (h4 : ∀ j, j < c.n → c'.us j = c.us j) :
    nodesOf (c.n + 1) c' = nodesOf c.n c ++ [.int .i64 (c'.val c.n), .int .i64 (oi (c'.nx c.n)), .int .i64 (oi (c'.pv c.n)), .bool (c'.us c.n)] := by
  have e : nodesOf c.n c' = nodesOf c.n c := by
    unfold nodesOf
    refine List.map_congr_left fun j hj => ?_
    have hj := List.mem_range.1 hj
    unfold cellN
    rw [h1 _ (by omega), h2 _ (by omega), h3 _ (by omega), h4 _ (by omega)]
  rw [← e]
  unfold nodesOf
  rw [show (c.n + 1) * 4 = c.n * 4 + 1 + 1 + 1 + 1 by omega, List.range_succ, List.range_succ, List.range_succ, List.range_succ]
  simp only [List.map_append, List.map_cons, List.map_nil, List.append_assoc, List.cons_append, List.nil_append]
  rw [cellN_val, cellN_nx, show c.n * 4 + 1 + 1 = c.n * 4 + 2 by omega, cellN_pv, show c.n * 4 + 2 + 1 = c.n * 4 + 3 by omega, cellN_us]

set_option maxHeartbeats 1000000 in
theorem take_any (w : World) (B D : Nat) (rv : Value) (c : LS) (v : Int) (h : ListAt w B D rv c) (hB : B ≤ w.heap.size) (hsz : c.sz ≤ 1048576) (hn : c.n ≤ 1048576) (hfr : ∀ s, c.fr = some s → s < c.n) :
    Calls Try.prog 36 #[.pointer (some ⟨D, 0, none⟩), .int .i64 v] w (MovePost w B D rv (takeL c v) (.int .i64 (slotL c : Int))) := by
  obtain ⟨i0, hi0, hz0, hz1, hz2⟩ := info_parts node_info
  have y0 := h.blk.frozen 0
  have y3 := h.blk.frozen 3
  have x4 : w.cell? ⟨D, 4, none⟩ = some (.int .i64 (c.sz : Int)) := h.blk.cell 4
  have y4 := h.blk.frozen 4
  cases hf : c.fr with
  | none =>
    have x3 : w.cell? ⟨D, 3, none⟩ = some (.int .i64 (-1)) := by have := h.blk.cell 3; simp [headL, hf, oi] at this; exact this
    obtain ⟨ao, cap, hrv⟩ : ∃ ao cap, rv = .slice ao c.n cap := by
      rcases h.row.2 with ⟨h1, h2⟩ | ⟨g, cap, cur, h1, _⟩
      · exact ⟨none, 0, by rw [h1, h2]⟩
      · exact ⟨_, _, h1⟩
    subst hrv
    have x0 : w.cell? ⟨D, 0, none⟩ = some (.slice ao c.n cap) := h.blk.cell 0
    have hDl := h.blk.lt
    have H := Lib.hid h
    have HF := Lib.hid hf
    have h4 : ListAt (w.setCell ⟨D, 4, none⟩ (.int .i64 ((c.sz : Int) + 1))) B D (.slice ao c.n cap) { c with sz := c.sz + 1 } := h.head 4 _ _ rfl rfl rfl rfl rfl rfl
    have H4 := Lib.hid h4
    clear h hf hfr h4
    go_enter Try.func36, Try.ntmps36
    go_wp2_with (at_builtin; refine halted ?_)
    change wpList _ _ _ _ _ _
    refine app_at rfl (.tmp 22) (.tmp 25) _ rfl B 65 i0 _ 4 32 Try.underlying61 hi0 hz0 hz1 hz2 rfl (by omega) (.slice ao c.n cap) c.n _ rfl H4.out.row [.int .i64 v, .int .i64 0, .int .i64 0, .bool true] _ w.heap.size (by simp) rfl rfl
      (by intro u hu; simp at hu; rcases hu with rfl | rfl | rfl | rfl <;> rfl) (by omega) (by omega) (by simpa using hB) ?_
    intro ao' cap' w1 hown hg hfr
    have hne : some D ≠ (Value.slice ao c.n cap).ownBlock := fun e => H.out.apart e.symm
    have hk1 : Blk w1 D 63 (headL (.slice ao c.n cap) { c with sz := c.sz + 1 }) := H4.out.blk.grown hg hne
    have x0' : w1.cell? ⟨D, 0, none⟩ = some (.slice ao c.n cap) := hk1.cell 0
    have y0' := hk1.frozen 0
    have HO := Lib.hid hown
    have HG := Lib.hid hg
    have HK := Lib.hid hk1
    have HFR := Lib.hid hfr
    clear hown hg hk1 hne hfr
    go_wp2
    go_ret
    have hsl : slotL c = c.n := by unfold slotL; rw [HF.out]; rfl
    have htk : takeL c v = { c with n := c.n + 1, sz := c.sz + 1, val := upd c.val c.n v, nx := upd c.nx c.n (some 0), pv := upd c.pv c.n (some 0), us := upd c.us c.n true } := by unfold takeL; rw [HF.out]
    have hne1 : (Value.slice ao' (c.n + 1) cap').ownBlock ≠ some D := own_blk_ne HO.out HK.out (by decide)
    rw [hsl, htk]
    refine ⟨rfl, ?_, _, ⟨H.out.base, HK.out.set_ 0 (.slice ao' (c.n + 1) cap'), ?_⟩, ?_⟩
    · exact ((foot_head _ _).trans ((Only.of_grown HG.out).mono (S' := foot D (.slice ao c.n cap)) (fun k hk => .inr hk)) (fun k hk => .inl hk)).trans (foot_head (rv := .slice ao c.n cap) _ _) (fun k hk => .inl hk)
    · have ho := HO.out
      have e : nodesOf (c.n + 1) { c with n := c.n + 1, sz := c.sz + 1, val := upd c.val c.n v, nx := upd c.nx c.n (some 0), pv := upd c.pv c.n (some 0), us := upd c.us c.n true } = nodesOf c.n c ++ [.int .i64 v, .int .i64 0, .int .i64 0, .bool true] := by
        rw [nodesOf_snoc c]
        · simp only [upd_same]
          rfl
        all_goals intro j hj; exact upd_other _ _ (by omega)
      show World.ownsRow _ _ _ _ _ (c.n + 1) (nodesOf (c.n + 1) _)
      rw [e]
      exact owns_only ho ((Only.refl (fun k => k = D) w1).setCell_ (p := ⟨D, 0, none⟩) (.inl rfl) _) (fun g hg e => hne1 (by rw [← e]; exact hg))
    · rintro k (rfl | hk)
      · exact .inl (.inl rfl)
      · rcases HFR.out k hk with h1 | h1
        · exact .inl (.inr h1)
        · exact .inr h1
  | some s =>
    have hs := hfr s hf
    have x3 : w.cell? ⟨D, 3, none⟩ = some (.int .i64 (s : Int)) := by have := h.blk.cell 3; simp [headL, hf, oi] at this; exact this
    obtain ⟨g, cap, rfl, hgD, hcap⟩ := h.form (by omega)
    have hDg : D ≠ g := fun e => hgD e.symm
    have x0 : w.cell? ⟨D, 0, none⟩ = some (.slice (some ⟨g, 0, none⟩) c.n cap) := h.blk.cell 0
    have z0 : w.cell? ⟨g, s * 4, none⟩ = some (.int .i64 (c.val s)) := by rw [h.row.cellAt _ (by omega), nodesOf_get _ (by omega), cellN_val]
    have z1 : w.cell? ⟨g, s * 4 + 1, none⟩ = some (.int .i64 (oi (c.nx s))) := by rw [h.row.cellAt _ (by omega), nodesOf_get _ (by omega), cellN_nx]
    have z2 : w.cell? ⟨g, s * 4 + 2, none⟩ = some (.int .i64 (oi (c.pv s))) := by rw [h.row.cellAt _ (by omega), nodesOf_get _ (by omega), cellN_pv]
    have z3 : w.cell? ⟨g, s * 4 + 3, none⟩ = some (.bool (c.us s)) := by rw [h.row.cellAt _ (by omega), nodesOf_get _ (by omega), cellN_us]
    have yz0 := h.row.frozenAt (s * 4)
    have yz1 := h.row.frozenAt (s * 4 + 1)
    have yz2 := h.row.frozenAt (s * 4 + 2)
    have yz3 := h.row.frozenAt (s * 4 + 3)
    have hs' : (s : Int) < c.n := by omega
    have t1 : ((s : Int) == -1) = false := by simp
    have H := Lib.hid h
    have HF := Lib.hid hf
    clear h hf hfr hs
    go_enter Try.func36, Try.ntmps36
    go_wp2
    go_ret
    have hsl : slotL c = s := by unfold slotL; rw [HF.out]; rfl
    have htk : takeL c v = { c with sz := c.sz + 1, fr := c.nx s, val := upd c.val s v, nx := upd c.nx s (some 0), pv := upd c.pv s (some 0), us := upd c.us s true } := by unfold takeL; rw [HF.out]
    rw [hsl, htk]
    have h1 : ListAt _ B D _ { c with sz := c.sz + 1, fr := c.nx s } := (H.out.head 4 (.int .i64 ((c.sz : Int) + 1)) { c with sz := c.sz + 1 } rfl rfl rfl rfl rfl rfl).head 3 (.int .i64 (oi (c.nx s))) _ rfl rfl rfl rfl rfl rfl
    have h2 := h1.node (s * 4) (.int .i64 v) { c with sz := c.sz + 1, fr := c.nx s, val := upd c.val s v } (set_val _ _ _ _ _ rfl rfl rfl rfl) (fun _ => rfl) rfl rfl
    have h3 := h2.node (s * 4 + 1) (.int .i64 0) { c with sz := c.sz + 1, fr := c.nx s, val := upd c.val s v, nx := upd c.nx s (some 0) } (set_nx _ _ _ _ (some 0) rfl rfl rfl rfl) (fun _ => rfl) rfl rfl
    have h4 := h3.node (s * 4 + 2) (.int .i64 0) { c with sz := c.sz + 1, fr := c.nx s, val := upd c.val s v, nx := upd c.nx s (some 0), pv := upd c.pv s (some 0) } (set_pv _ _ _ _ (some 0) rfl rfl rfl rfl) (fun _ => rfl) rfl rfl
    have h5 := h4.node (s * 4 + 3) (.bool true) { c with sz := c.sz + 1, fr := c.nx s, val := upd c.val s v, nx := upd c.nx s (some 0), pv := upd c.pv s (some 0), us := upd c.us s true } (set_us _ _ _ _ _ rfl rfl rfl rfl) (fun _ => rfl) rfl rfl
    refine ⟨rfl, ?_, _, h5, fun k hk => .inl hk⟩
    exact (((((foot_head _ _).trans (foot_head _ _) (fun k hk => .inl hk)).trans (foot_node _ _) (fun k hk => .inl hk)).trans (foot_node (D := D) (n := c.n) (cap := cap) _ _) (fun k hk => .inl hk)).trans (foot_node (D := D) (n := c.n) (cap := cap) _ _) (fun k hk => .inl hk)).trans (foot_node (D := D) (n := c.n) (cap := cap) _ _) (fun k hk => .inl hk)

theorem takeL_n (c : LS) (v : Int) : (takeL c v).n = if c.fr = none then c.n + 1 else c.n := by unfold takeL; cases c.fr <;> rfl
theorem slotL_lt (c : LS) (v : Int) (hfr : ∀ s, c.fr = some s → s < c.n) : slotL c < (takeL c v).n := by
  rw [takeL_n]
  unfold slotL
  cases h : c.fr with
  | none => simp
  | some s => have := hfr s h; simpa using this
/-- what a list must be, that a step goes well -/
structure Fine (c : LS) : Prop where
  n : c.n ≤ 1048576
  sz : c.sz ≤ 1048576
  fr : ∀ s, c.fr = some s → s < c.n
  fi : ∀ s, c.fi = some s → s < c.n
  la : ∀ s, c.la = some s → s < c.n
theorem rep_fine {c : LS} {r : R} (h : Rep c r) (hn : r.U ≤ 1048576) (hsz : r.E.length ≤ 1048576) : Fine c := by
  refine ⟨by rw [h.n]; exact hn, by rw [h.sz]; exact hsz, ?_, ?_, ?_⟩
  · intro s hs
    rw [h.fr] at hs
    cases hl : r.F.length with
    | zero => rw [hl] at hs; cases hs
    | succ m =>
      rw [hl, freeAt_succ] at hs
      rw [h.n]
      exact (h.ff m s hs).1
  · intro s hs
    rw [h.ch.fi] at hs
    unfold slotAt at hs
    cases hx : r.E[0]? with
    | none => rw [hx] at hs; cases hs
    | some x =>
      rw [hx] at hs
      injection hs with hs
      rw [h.n, ← hs]
      exact (h.el 0 x hx).1
  · intro s hs
    rw [h.ch.la] at hs
    unfold lastAt at hs
    cases hl : r.E.length with
    | zero => rw [hl] at hs; cases hs
    | succ m =>
      rw [hl, before_succ] at hs
      unfold slotAt at hs
      cases hx : r.E[m]? with
      | none => rw [hx] at hs; cases hs
      | some x =>
        rw [hx] at hs
        injection hs with hs
        rw [h.n, ← hs]
        exact (h.el m x hx).1

set_option maxHeartbeats 1000000 in
theorem pushBack_any (w : World) (B D : Nat) (rv : Value) (c : LS) (v : Int) (h : ListAt w B D rv c) (hB : B ≤ w.heap.size) (hf : Fine c) :
    Calls Try.prog 29 #[.pointer (some ⟨D, 0, none⟩), .int .i64 v] w (MovePost w B D rv (pushBackL c v) (.int .i64 (slotL c : Int))) := by
  have hlt := slotL_lt c v hf.fr
  have hlen : c.n ≤ (takeL c v).n := by rw [takeL_n]; split <;> omega
  have hla := hf.la
  have htake := take_any w B D rv c v h hB hf.sz hf.n hf.fr
  have HT := Lib.hid htake
  have HL := Lib.hid hla
  clear htake h hf hla
  go_enter Try.func29, Try.ntmps29
  go_wp2_with fail
  refine HT.out.mono ?_
  rintro e w1 ⟨rfl, ho1, rv1, h1, hf1⟩
  have x2 : w1.cell? ⟨D, 2, none⟩ = some (.int .i64 (oi c.la)) := by have := h1.blk.cell 2; rw [show headL rv1 (takeL c v) = _ from rfl] at this; simp [headL, takeL_la] at this; exact this
  have H1 := Lib.hid h1
  have HO1 := Lib.hid ho1
  have HF1 := Lib.hid hf1
  clear h1 ho1 hf1
  go_wp2_with fail
  refine (join_any w1 B D rv1 (takeL c v) c.la (some (slotL c)) H1.out (fun k hk => by have := HL.out k hk; omega) (fun k hk => by injection hk with hk; omega)).mono ?_
  rintro e w2 ⟨rfl, ho2, hz2, h2⟩
  have H2 := Lib.hid h2
  have HO2 := Lib.hid ho2
  clear h2 ho2 hz2
  go_wp2_with fail
  refine (join_any w2 B D rv1 (joinL (takeL c v) c.la (some (slotL c))) (some (slotL c)) none H2.out (fun k hk => by injection hk with hk; rw [joinL_n]; omega) (fun k hk => by cases hk)).mono ?_
  rintro e w3 ⟨rfl, ho3, hz3, h3⟩
  have H3 := Lib.hid h3
  have HO3 := Lib.hid ho3
  clear h3 ho3 hz3
  go_wp2_with fail
  go_ret
  exact ⟨rfl, (HO1.out.trans HO2.out HF1.out).trans HO3.out HF1.out, rv1, H3.out, HF1.out⟩

end Go.Proofs.Ytegdchlbmjokmaa
