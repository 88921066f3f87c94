/- SameBytes, SameInts, SameEntry of equal things. -/
import Derived.Test.YtnihkjhejjeepaaEnt
import Derived.Deep.QuietTactic
import Derived.BigQuiet
import Derived.Laws.IdiomStrings
namespace Go.Proofs.Ytnihkjhejjeepaa
open Go.RowKit
set_option linter.unusedVariables false
set_option linter.unusedSimpArgs false
open ShaW Sha

theorem conv_none (w : World) (c : Nat) : (convert 35 9 (.slice none 0 c)).run Try.prog w = .ok (.string ByteArray.empty) w := by kernel_rfl
theorem conv_reads (w : World) (A : Option Addr) (n c B : Nat) (f : Nat → UInt8) (hr : Reads w B 1 A n (bytesOf n f)) :
    (convert 35 9 (.slice A n c)).run Try.prog w = .ok (.string ⟨((List.range n).map f).toArray⟩) w := by
  rcases A with _ | a
  · rcases Nat.eq_zero_or_pos n with rfl | h
    · exact conv_none w c
    · obtain ⟨ad, _, h1, _⟩ := hr.at_ h
      cases h1
  · have h := run_convert_bytes_back (P := Try.prog) w 35 9 5 a c ((List.range n).map f) Try.underlying35 Try.underlying5 Try.underlying9 (fun j hj => by
      simp only [List.length_map, List.length_range] at hj
      obtain ⟨ad, u, h1, _, h2, h3⟩ := hr.at_ hj
      injection h1 with h1
      subst h1
      rw [h3, ← h2, bytesOf_get f hj]
      simp)
    simpa using h
theorem same_reads (w : World) (A1 A2 : Option Addr) (n c1 c2 B1 B2 : Nat) (f : Nat → UInt8) (h1 : Reads w B1 1 A1 n (bytesOf n f)) (h2 : Reads w B2 1 A2 n (bytesOf n f)) :
    Calls Try.prog 34 #[.slice A1 n c1, .slice A2 n c2] w fun e w' => e = .returned (.bool true) ∧ w = w' := by
  have h1 := conv_reads w A1 n c1 B1 f h1
  have h2 := conv_reads w A2 n c2 B2 f h2
  generalize (ByteArray.mk ((List.range n).map f).toArray) = S at h1 h2
  go_enter Try.func34, Try.ntmps34
  go_wp2_with fail
  go_ret
  exact ⟨by first | rfl | simp, rfl⟩
def IntsR (w : World) (v : Value) (l : List Int) : Prop := ∃ A c g o, v = .slice A l.length c ∧ (0 < l.length → A = some ⟨g, o, none⟩) ∧ ∀ (j : Nat) x, l[j]? = some x → w.cell? ⟨g, o + j, none⟩ = some (.int .i64 x)
theorem IntsR.of_rd {w : World} {v : Value} {l : List Int} (h : RdT w 3 v l.length (intsV l)) : IntsR w v l := by
  obtain ⟨A, c, rfl, hr, ht⟩ := h
  rcases Nat.eq_zero_or_pos l.length with h0 | h0
  · refine ⟨A, c, 0, 0, rfl, fun h => absurd h (by omega), fun j x hj => ?_⟩
    have := (List.getElem?_eq_some_iff.1 hj).1
    omega
  · obtain ⟨g, o, cs, mk, rfl, _⟩ := ht h0
    refine ⟨_, c, g, o, rfl, fun _ => rfl, fun j x hj => ?_⟩
    obtain ⟨ad, e, _, hc⟩ := hr.2 h0
    injection e with e
    subst e
    have := hc j (.int .i64 x) (by unfold intsV; rw [List.getElem?_map, hj]; rfl)
    rwa [add_flat] at this
theorem IntsR.drewN {w : World} {v : Value} {l : List Int} (h : IntsR w v l) (k : Nat) : IntsR (w.drewN k) v l := h
set_option maxHeartbeats 1000000 in
theorem sameInts_any (w : World) (v1 v2 : Value) (l : List Int) (h1 : IntsR w v1 l) (h2 : IntsR w v2 l) (hl : l.length ≤ 1099511627776) :
    Calls Try.prog 35 #[v1, v2] w fun e w' => e = .returned (.bool true) ∧ ∃ k, w' = w.drewN k := by
  obtain ⟨A1, c1, g1, o1, rfl, hA1, hc1⟩ := h1
  obtain ⟨A2, c2, g2, o2, rfl, hA2, hc2⟩ := h2
  have t0 : ((l.length : Int) != (l.length : Int)) = false := by simp
  have HC1 := Lib.hid hc1
  have HC2 := Lib.hid hc2
  have HA1 := Lib.hid hA1
  have HA2 := Lib.hid hA2
  clear hc1 hc2 hA1 hA2
  go_enter Try.func35, Try.ntmps35
  go_wp2
  go_loopw [13] (fun i wr => ∃ k q : Nat, k ≤ l.length ∧ i = .int .i64 (k : Int) ∧ wr = w.drewN q) (fun i _ => l.length - (intOf i).toNat)
  case atStart => exact ⟨0, 0, by omega, rfl, rfl⟩
  case round =>
    obtain ⟨k, q, hk, rfl, rfl⟩ := hrel
    rcases Nat.lt_or_ge k l.length with hlt | hge
    · obtain ⟨x, hx⟩ : ∃ x, l[k]? = some x := ⟨l[k]'hlt, List.getElem?_eq_getElem hlt⟩
      obtain rfl := HA1.out (by omega)
      obtain rfl := HA2.out (by omega)
      have d1 := HC1.out k x hx
      have d2 := HC2.out k x hx
      have hlt' : (k : Int) < l.length := by omega
      have hk0 : (0 : Int) ≤ k := by omega
      have t1 : (x != x) = false := by simp
      clear hx
      go_wp2_with fail
      go_quiet (fail)
      go_wp2_with fail
      go_roundw
      case rel => exact ⟨k + 1, _, by omega, by go_num, rfl⟩
      case measure => simp [intOf]; omega
    · have hlt' : ¬ ((k : Int) < l.length) := by omega
      go_wp2
      go_ret
      exact ⟨rfl, _, rfl⟩
theorem ent_key {w : World} {g : Nat} {e : Ent} {rv pv : Value} (h : Blk w g 38 (entCells e rv pv).toArray) : ∀ j u, (bytesOf 32 e.key)[j]? = some u → w.cell? ((⟨g, 0, none⟩ : Addr).add j) = some u := by
  intro j u hu
  rw [add_flat, Nat.zero_add, h.cell]
  refine List.getElem?_toArray.trans ?_
  unfold entCells
  exact (List.getElem?_append_left (List.getElem?_eq_some_iff.1 hu).1).trans hu
theorem ent_cell {w : World} {g : Nat} {e : Ent} {rv pv : Value} (h : Blk w g 38 (entCells e rv pv).toArray) (j : Nat) : w.cell? ⟨g, 32 + j, none⟩ = (entTail e rv pv)[j]? := by
  rw [h.cell]
  exact List.getElem?_toArray.trans (entCells_get e rv pv j)
set_option maxRecDepth 100000 in
set_option maxHeartbeats 4000000 in
attribute [local go_sem ↓] wp_load_k in
theorem sameEntry_any (w : World) (e : Ent) (rv pv rv' pv' : Value) (h : EntRd w e rv pv) (h' : EntRd w e rv' pv') (hn : e.rn ≤ 1048576) (hp : e.peers.length ≤ 1048576) :
    Calls Try.prog 16 #[entV e rv pv, entV e rv' pv'] w fun ed w' => ed = .returned (.bool true) ∧ Below w.heap.size w w' := by
  have HE := Lib.hid h
  have HE' := Lib.hid h'
  obtain ⟨cx, hcx⟩ : ∃ cx, (entCells e rv pv).toArray = cx := ⟨_, rfl⟩
  obtain ⟨cy, hcy⟩ : ∃ cy, (entCells e rv' pv').toArray = cy := ⟨_, rfl⟩
  show Calls _ _ #[.agg _, .agg _] _ _
  rw [hcx, hcy]
  have HCX := Lib.hid hcx
  have HCY := Lib.hid hcy
  clear hcx hcy h h'
  go_enter Try.func16, Try.ntmps16
  go_upto_region 1 with (fail)
  generalize hwa : World.alloc (World.alloc w _) _ = wa
  have hb0 : Below w.heap.size w wa := by rw [← hwa]; exact ((Below.refl _ _).alloc (Nat.le_refl _) _).alloc (by simp) _
  have hk1 : Blk wa w.heap.size 38 (entCells e rv pv).toArray := by rw [← hwa, HCX.out]; exact (Blk.new w _ _).alloc _
  have hk2 : Blk wa (w.heap.size + 1) 38 (entCells e rv' pv').toArray := by rw [← hwa, HCY.out]; exact heap_alloc_at _ _ _ (by simp)
  have q1 := keyOk_mk (ent_key hk1)
  have q2 := loadK_eq (ent_key hk1)
  have q3 := keyOk_mk (ent_key hk2)
  have q4 := loadK_eq (ent_key hk2)
  obtain ⟨k, hk⟩ : ∃ k, e.key = k := ⟨_, rfl⟩
  rw [hk] at q2 q4
  have qe : ∀ W, (binOp .eql 34 (keyV k) (keyV k)).run Try.prog W = .ok (.bool true) W := fun W => by
    have := run_keyEq W k k
    rw [keyEq_refl] at this
    exact this
  have x0 : wa.cell? ⟨w.heap.size, 32, none⟩ = some rv := ent_cell hk1 0
  have x1 : wa.cell? ⟨w.heap.size, 33, none⟩ = some (.string e.snd) := ent_cell hk1 1
  have x2 : wa.cell? ⟨w.heap.size, 34, none⟩ = some (.int .u64 e.seq) := ent_cell hk1 2
  have x3 : wa.cell? ⟨w.heap.size, 35, none⟩ = some (.int .u64 e.gas) := ent_cell hk1 3
  have x4 : wa.cell? ⟨w.heap.size, 36, none⟩ = some (.int .u64 e.prio) := ent_cell hk1 4
  have x5 : wa.cell? ⟨w.heap.size, 37, none⟩ = some (.int .i64 e.ht) := ent_cell hk1 5
  have x6 : wa.cell? ⟨w.heap.size, 38, none⟩ = some (.int .i64 e.tm) := ent_cell hk1 6
  have x7 : wa.cell? ⟨w.heap.size, 39, none⟩ = some (.int .i64 e.ord) := ent_cell hk1 7
  have x8 : wa.cell? ⟨w.heap.size, 40, none⟩ = some pv := ent_cell hk1 8
  have y0 : wa.cell? ⟨w.heap.size + 1, 32, none⟩ = some rv' := ent_cell hk2 0
  have y1 : wa.cell? ⟨w.heap.size + 1, 33, none⟩ = some (.string e.snd) := ent_cell hk2 1
  have y2 : wa.cell? ⟨w.heap.size + 1, 34, none⟩ = some (.int .u64 e.seq) := ent_cell hk2 2
  have y3 : wa.cell? ⟨w.heap.size + 1, 35, none⟩ = some (.int .u64 e.gas) := ent_cell hk2 3
  have y4 : wa.cell? ⟨w.heap.size + 1, 36, none⟩ = some (.int .u64 e.prio) := ent_cell hk2 4
  have y5 : wa.cell? ⟨w.heap.size + 1, 37, none⟩ = some (.int .i64 e.ht) := ent_cell hk2 5
  have y6 : wa.cell? ⟨w.heap.size + 1, 38, none⟩ = some (.int .i64 e.tm) := ent_cell hk2 6
  have y7 : wa.cell? ⟨w.heap.size + 1, 39, none⟩ = some (.int .i64 e.ord) := ent_cell hk2 7
  have y8 : wa.cell? ⟨w.heap.size + 1, 40, none⟩ = some pv' := ent_cell hk2 8
  have he := HE.out.below hb0
  have he' := HE'.out.below hb0
  obtain ⟨A1, c1, hv1, hr1, _⟩ := he.raw
  obtain ⟨A2, c2, hv2, hr2, _⟩ := he'.raw
  have HSB := Lib.hid (same_reads wa A1 A2 e.rn c1 c2 _ _ e.raw hr1 hr2)
  rw [← hv1, ← hv2] at HSB
  have HSI : Hid (Calls Try.prog 35 #[pv, pv'] wa fun e w' => e = .returned (.bool true) ∧ ∃ k, w' = wa.drewN k) := Lib.hid (sameInts_any wa pv pv' e.peers (IntsR.of_rd he.peers) (IntsR.of_rd he'.peers) (by omega))
  have HB0 := Lib.hid hb0
  obtain ⟨z1, hz1⟩ : ∃ z, e.snd = z := ⟨_, rfl⟩
  obtain ⟨z2, hz2⟩ : ∃ z, e.seq = z := ⟨_, rfl⟩
  obtain ⟨z3, hz3⟩ : ∃ z, e.gas = z := ⟨_, rfl⟩
  obtain ⟨z4, hz4⟩ : ∃ z, e.prio = z := ⟨_, rfl⟩
  obtain ⟨z5, hz5⟩ : ∃ z, e.ht = z := ⟨_, rfl⟩
  obtain ⟨z6, hz6⟩ : ∃ z, e.tm = z := ⟨_, rfl⟩
  obtain ⟨z7, hz7⟩ : ∃ z, e.ord = z := ⟨_, rfl⟩
  rw [hz1] at x1 y1
  rw [hz2] at x2 y2
  rw [hz3] at x3 y3
  rw [hz4] at x4 y4
  rw [hz5] at x5 y5
  rw [hz6] at x6 y6
  rw [hz7] at x7 y7
  clear hwa hb0 hk1 hk2 hk he he' hv1 hv2 hr1 hr2 hz1 hz2 hz3 hz4 hz5 hz6 hz7
  simp only [List.append]
  go_wp2_with fail
  refine HSB.out.mono ?_
  rintro ed w' ⟨rfl, rfl⟩
  go_wp2_with fail
  refine HSI.out.mono ?_
  rintro ed w' ⟨rfl, kk, rfl⟩
  go_wp2_with fail
  go_ret
  exact ⟨rfl, below_drewN HB0.out _⟩
end Go.Proofs.Ytnihkjhejjeepaa
