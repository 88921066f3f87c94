/- Lists of handles in memory; sequences: what holds behind each step, plainly. -/
import Derived.Test.YtnihkjhejjeepaaSlbKn
namespace Go.Proofs.Ytnihkjhejjeepaa
open Go.RowKit
set_option linter.unusedVariables false
set_option linter.unusedSimpArgs false
open ShaW Sha

set_option maxHeartbeats 1000000 in
theorem long_gen (w : World) (g : Nat) (A : Option Addr) (n c : Nat) (b : Bool) (hc : w.cell? ⟨g, 0, none⟩ = some (.slice A n c)) (hn : n ≤ 9223372036854775807) (hb : decide (160 < (n : Int)) = b) :
    Calls Try.prog 8 #[.slice (some ⟨g, 0, none⟩) 1 1] w fun e w' => e = .returned (.bool b) ∧ w = w' := by
  have HB := Lib.hid hb
  clear hb
  go_enter Try.func8, Try.ntmps8
  go_wp2
  go_loop [3, 8] (fun s i => (s = .int .i64 0 ∧ i = .int .i64 0) ∨ (s = .int .i64 (n : Int) ∧ i = .int .i64 1)) (fun _ i => 1 - (intOf i).toNat)
  case atStart => exact .inl ⟨rfl, rfl⟩
  case round =>
    rcases hrel with ⟨rfl, rfl⟩ | ⟨rfl, rfl⟩
    · go_wp2
      go_round
      case rel => exact .inr ⟨rfl, rfl⟩
      case measure => simp [intOf]
    · go_wp2
      go_ret
      refine ⟨?_, rfl⟩
      rw [← HB.out]
      rfl
theorem long_any (w : World) (A : Option Addr) (n c g : Nat) (t : TypeId) (hg : g = w.heap.size) (hn : n ≤ 9223372036854775807) (b : Bool) (hb : decide (160 < (n : Int)) = b) :
    Calls Try.prog 8 #[.slice (some ⟨g, 0, none⟩) 1 1] (w.alloc (.cells #[.slice A n c] t)) fun e w' => e = .returned (.bool b) ∧ w.alloc (.cells #[.slice A n c] t) = w' :=
  long_gen _ g A n c b (by subst hg; rw [World.cell?_alloc_at _ _ _ _ rfl]; rfl) hn hb
/-- where the numbers stand -/
def numC (w : World) (D : Nat) : Nat := match w.cell? ⟨D, 1, none⟩ with | some (.int _ k) => k.toNat | _ => 0
theorem NumAt.numC {w : World} {B D n N : Nat} (h : NumAt w B D n N) : numC w D = N := by
  obtain ⟨A, c, f, _, hb, _⟩ := h
  have := hb.cell 1
  simp at this
  unfold Go.Proofs.Ytnihkjhejjeepaa.numC
  rw [this]
  simp
theorem NumAt.blk {w : World} {B D n N : Nat} (h : NumAt w B D n N) : ∃ cs, Blk w D 52 cs := by
  obtain ⟨A, c, f, _, hb, _⟩ := h
  exact ⟨_, hb⟩
theorem NumAt.below_ {w w' : World} {B D n N : Nat} (h : NumAt w B D n N) (hB : B ≤ w.heap.size) (hb : Below w.heap.size w w') : NumAt w' B D n N :=
  h.only (Only.of_below (fun _ => False) hb) hB (fun _ h => h.elim) (fun h => h)

abbrev Hd := Nat × Nat
def hcells (h : Hd) : List Value := [.int .i64 (h.1 : Int), .int .i64 (h.2 : Int)]
theorem hcells_len (h : Hd) : (hcells h).length = 2 := rfl
def hdlsV (L : List Hd) : List Value := L.flatMap hcells
theorem hdlsV_len (L : List Hd) : (hdlsV L).length = L.length * 2 := flat_len _ _ hcells_len L
theorem hdlsV_append (L M : List Hd) : hdlsV (L ++ M) = hdlsV L ++ hdlsV M := by unfold hdlsV; rw [List.flatMap_append]
theorem hdlsV_one (h : Hd) : hdlsV [h] = hcells h := by unfold hdlsV; simp
theorem hdlsV_oneCell (L : List Hd) : ∀ u ∈ hdlsV L, u.oneCell' = true := by
  intro u hu
  obtain ⟨h, _, hh⟩ := List.mem_flatMap.1 hu
  simp [hcells] at hh
  rcases hh with rfl | rfl <;> rfl
theorem hdl_info : (Try.prog.info? 43).map (fun i => (i.zero, i.size, i.bytes)) = some (some (.agg #[.int .i64 0, .int .i64 0]), 2, 16) := by kernel_rfl
theorem hdl_fill (a b : Int) (ie : TypeInfo) (hs : ie.size = 2) : Instr.fill (fun i => some (i * ie.size, ie.size)) ((Array.range (1 * ie.size)).map ((Value.agg #[.int .i64 0, .int .i64 0]).cells[· % (Value.agg #[.int .i64 0, .int .i64 0]).cells.size]!)) [(0, .agg #[.int .i64 a, .int .i64 b])] = some #[.int .i64 a, .int .i64 b] := by
  rw [hs]
  kernel_rfl
/-- one handle, laid to be appended -/
theorem hdl_reads (w : World) (h : Hd) : Reads (w.alloc (.cells #[.int .i64 (h.1 : Int), .int .i64 (h.2 : Int)] 43)) (w.alloc (.cells #[.int .i64 (h.1 : Int), .int .i64 (h.2 : Int)] 43)).heap.size 2 (some ⟨w.heap.size, 0, none⟩) 1 (hdlsV [h]) := by
  refine ⟨by rw [hdlsV_len]; rfl, fun _ => ⟨_, rfl, by simp, fun j u hu => ?_⟩⟩
  rw [add_flat, Nat.zero_add, World.cell?_alloc_at _ _ _ _ rfl]
  rw [hdlsV_one] at hu
  exact (List.getElem?_toArray (xs := hcells h)).trans hu
theorem hdls_cell {w : World} {base : Nat} {c : Nat} {L : List Hd} {A : Option Addr} (h : w.ownsRow base 43 2 (.slice A L.length c) L.length (hdlsV L)) {i : Nat} {x : Hd} (hx : L[i]? = some x) :
    ∃ g, A = some ⟨g, 0, none⟩ ∧ w.cell? ⟨g, i * 2, none⟩ = some (.int .i64 (x.1 : Int)) ∧ w.cell? ⟨g, i * 2 + 1, none⟩ = some (.int .i64 (x.2 : Int)) ∧ g < w.heap.size := by
  have hi := (List.getElem?_eq_some_iff.1 hx).1
  obtain ⟨g, c', hv, h1, h2⟩ := h.form (by omega)
  injection hv with e1 _ e3
  subst e1 e3
  refine ⟨g, rfl, ?_, ?_, by omega⟩
  · have := h.cellAt (i * 2) (by omega)
    rw [this]
    exact (flat_get _ _ hcells_len L hx (j := 0) (by omega)).trans rfl
  · have := h.cellAt (i * 2 + 1) (by omega)
    rw [this]
    exact (flat_get _ _ hcells_len L hx (j := 1) (by omega)).trans rfl

/-! ### plainly -/
structure PlSt (m : RSt) (live dead : List Hd) (k : Nat) : Prop where
  wf : WfR m k
  nd : live.Nodup
  liv : ∀ h ∈ live, ∃ p, m.pl[h.1]? = some p ∧ p.full = true ∧ p.uses = h.2 + 1
  ded : ∀ h ∈ dead, ∃ p, m.pl[h.1]? = some p ∧ (h.2 + 1 < p.uses ∨ (p.full = false ∧ h.2 + 1 ≤ p.uses))
  cnt : cntP m.pl = live.length
  dl : dead.length ≤ k
theorem PlSt.more {m : RSt} {live dead : List Hd} {k k' : Nat} (h : PlSt m live dead k) (hk : k ≤ k') : PlSt m live dead k' :=
  ⟨h.wf.more hk, h.nd, h.liv, h.ded, h.cnt, Nat.le_trans h.dl hk⟩
theorem PlSt.len {m : RSt} {live dead : List Hd} {k : Nat} (h : PlSt m live dead k) : live.length ≤ k := by
  have := cntP_len m.pl
  have := h.wf.len
  have := h.cnt
  omega
theorem PlSt.add {m : RSt} {live dead : List Hd} {k : Nat} (h : PlSt m live dead k) (hf : m.full = false) {e : Ent} (he : Small e) : PlSt (m.add e) (live ++ [(m.slot, m.use)]) dead (k + 1) := by
  obtain ⟨p, hp, hpf, hpu, hpk⟩ := RSt.slot_at h.wf
  have hl := RSt.slot_lt h.wf
  have hne : ∀ x ∈ live, m.slot ≠ x.1 := fun x hx e1 => by
    obtain ⟨q, hq, hqf, _⟩ := h.liv x hx
    have := pl1_get hq
    rw [← e1, hp] at this
    injection this with this
    rw [this, hqf] at hpf
    cases hpf
  refine ⟨h.wf.add hf he, ?_, ?_, ?_, ?_, Nat.le_trans h.dl (Nat.le_succ _)⟩
  · rw [List.nodup_append]
    exact ⟨h.nd, by simp, fun a ha b hb e1 => by rw [List.mem_singleton.1 hb] at e1; exact hne a ha (by rw [e1])⟩
  · intro x hx
    show ∃ p, (m.pl1.set m.slot _)[x.1]? = some p ∧ _
    rcases List.mem_append.1 hx with hx | hx
    · obtain ⟨q, hq, h2⟩ := h.liv x hx
      exact ⟨q, by rw [List.getElem?_set_ne (hne x hx)]; exact pl1_get hq, h2⟩
    · rw [List.mem_singleton.1 hx]
      exact ⟨_, List.getElem?_set_self hl, rfl, rfl⟩
  · intro x hx
    show ∃ p, (m.pl1.set m.slot _)[x.1]? = some p ∧ _
    obtain ⟨q, hq, h2⟩ := h.ded x hx
    by_cases hs : m.slot = x.1
    · have := pl1_get hq
      rw [← hs, hp] at this
      injection this with this
      rw [← hs]
      refine ⟨_, List.getElem?_set_self hl, .inl ?_⟩
      show x.2 + 1 < m.use + 1
      rw [← this] at h2
      rcases h2 with h2 | h2
      · omega
      · have := h2.2
        omega
    · exact ⟨q, by rw [List.getElem?_set_ne hs]; exact pl1_get hq, h2⟩
  · rw [cnt_add h.wf, h.cnt, List.length_append]
    rfl
def lack (L : List Hd) (i : Nat) : List Hd := L.take i ++ L.drop (i + 1)
theorem PlSt.rem {m : RSt} {live dead : List Hd} {k : Nat} (h : PlSt m live dead k) {i : Nat} {x : Hd} (hx : live[i]? = some x) : PlSt (m.rem x.1) (lack live i) (dead ++ [x]) (k + 1) := by
  have hil := (List.getElem?_eq_some_iff.1 hx).1
  obtain ⟨p, hp, hf, hu⟩ := h.liv x (List.mem_of_getElem? hx)
  have hpl := (List.getElem?_eq_some_iff.1 hp).1
  have hsp : live = live.take i ++ x :: live.drop (i + 1) := by
    have e := (List.getElem?_eq_some_iff.1 hx).2
    rw [← e, ← List.drop_eq_getElem_cons hil, List.take_append_drop]
  have hnd := h.nd
  rw [hsp] at hnd
  obtain ⟨n1, n2, n3⟩ := List.nodup_append.1 hnd
  have hmem : ∀ y ∈ lack live i, y ∈ live ∧ y ≠ x := fun y hy => by
    rcases List.mem_append.1 hy with hy | hy
    · exact ⟨List.mem_of_mem_take hy, fun e => n3 y hy x (by simp) e⟩
    · exact ⟨List.mem_of_mem_drop hy, fun e => (List.nodup_cons.1 n2).1 (e ▸ hy)⟩
  have hg : ((m.pl[x.1]?).getD plc0).uses = p.uses := by rw [hp]; rfl
  refine ⟨(h.wf.rem hp hf).more (Nat.le_succ _), ?_, ?_, ?_, ?_, ?_⟩
  · show (live.take i ++ live.drop (i + 1)).Nodup
    rw [List.nodup_append]
    exact ⟨n1, (List.nodup_cons.1 n2).2, fun a ha b hb => n3 a ha b (List.mem_cons_of_mem _ hb)⟩
  · intro y hy
    obtain ⟨h1, h2⟩ := hmem y hy
    obtain ⟨q, hq, hqf, hqu⟩ := h.liv y h1
    have hne : x.1 ≠ y.1 := fun e => h2 (by
      rw [← e, hp] at hq
      injection hq with hq
      subst hq
      exact Prod.ext e.symm (by omega))
    exact ⟨q, by show (m.pl.set x.1 _)[y.1]? = _; rw [List.getElem?_set_ne hne]; exact hq, hqf, hqu⟩
  · intro y hy
    show ∃ p, (m.pl.set x.1 _)[y.1]? = some p ∧ _
    rcases List.mem_append.1 hy with hy | hy
    · obtain ⟨q, hq, h2⟩ := h.ded y hy
      by_cases he : x.1 = y.1
      · rw [← he, hp] at hq
        injection hq with hq
        subst hq
        rw [← he]
        refine ⟨_, List.getElem?_set_self hpl, .inl ?_⟩
        show y.2 + 1 < ((m.pl[x.1]?).getD plc0).uses
        rw [hg]
        rcases h2 with h2 | h2
        · exact h2
        · rw [hf] at h2; cases h2.1
      · exact ⟨q, by rw [List.getElem?_set_ne he]; exact hq, h2⟩
    · rw [List.mem_singleton.1 hy]
      refine ⟨_, List.getElem?_set_self hpl, .inr ⟨rfl, ?_⟩⟩
      show x.2 + 1 ≤ ((m.pl[x.1]?).getD plc0).uses
      omega
  · have h1 := cnt_rem hp hf
    have h2 := h.cnt
    have h3 : (lack live i).length = live.length - 1 := by
      unfold lack
      rw [List.length_append, List.length_take, List.length_drop]
      omega
    omega
  · rw [List.length_append]
    have := h.dl
    simp
    exact this
theorem PlSt.dead_no {m : RSt} {live dead : List Hd} {k : Nat} (h : PlSt m live dead k) {x : Hd} (hx : x ∈ dead) : m.ok (x.1 : Int) (x.2 : Int) = false := by
  obtain ⟨p, hp, h2⟩ := h.ded x hx
  rw [RSt.ok_at hp]
  rcases h2 with h2 | h2
  · have : decide ((p.uses : Int) - 1 = (x.2 : Int)) = false := by simp; omega
    rw [this, Bool.and_false]
  · rw [h2.1, Bool.false_and]
theorem plSt0 : PlSt ⟨4, [], []⟩ [] [] 0 := ⟨wf0 4 0, List.nodup_nil, fun _ h => absurd h List.not_mem_nil, fun _ h => absurd h List.not_mem_nil, rfl, Nat.le_refl _⟩
end Go.Proofs.Ytnihkjhejjeepaa
