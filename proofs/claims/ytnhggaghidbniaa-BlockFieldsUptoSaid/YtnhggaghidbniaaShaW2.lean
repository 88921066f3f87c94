/- The reference's function for one block of SHA-256. -/
import Derived.Test.YtnhggaghidbniaaShaW1
import Derived.Test.YtnhggaghidbniaaOwn
import Derived.Deep.OwnRows
import Derived.StillTailTactics
import Derived.Laws.Tables
import Derived.Deep.CutBlock
import Derived.Deep.DeepCutAuto
import Derived.Deep.RegionHeld3
namespace Go.Proofs.Ytnhggaghidbniaa
open Go.RowKit
set_option linter.unusedVariables false
open ShaW Sha

theorem quiet_add {P : Program} {f : FuncId} {args : Array Value} {w : World} {a n : Nat} {v : Value}
    (h : Calls P f args (w.drewN (a + n)) fun e w' => e = .returned v ∧ ∃ m, w' = (w.drewN (a + n)).drewN m) :
    Calls P f args (w.drewN (a + n)) fun e w'' => e = .returned v ∧ ∃ m, w'' = w.drewN (a + m) :=
  h.mono fun _ _ ⟨he, m, hm⟩ => ⟨he, n + m, by rw [hm, World.drewN_drewN, Nat.add_assoc]⟩

theorem addM5 (a b c d e : Wd) : ((a.toNat : Int) + b.toNat + c.toNat + d.toNat + e.toNat) % 4294967296 = (((((a + b) + c) + d) + e).toNat : Int) := by
  simp only [BitVec.toNat_add]; omega

/-- a state as a value -/
abbrev stV (s : St) : Value := .agg #[.int .u32 s.a.toNat, .int .u32 s.b.toNat, .int .u32 s.c.toNat, .int .u32 s.d.toNat, .int .u32 s.e.toNat, .int .u32 s.f.toNat, .int .u32 s.g.toNat, .int .u32 s.h.toNat]

theorem byteW (a : UInt8) : (a.toNat : Int) % 4294967296 = ((BitVec.ofNat 32 a.toNat).toNat : Int) := by
  rw [BitVec.toNat_ofNat]; have := a.toNat_lt; omega
theorem byteShl (a : UInt8) (n : Nat) : (a.toNat : Int) % 4294967296 * 2 ^ n % 4294967296 = ((BitVec.ofNat 32 a.toNat <<< n).toNat : Int) := by
  rw [byteW, ← shlN, IntKind.wrap_u32]
theorem be_word (a b c d : UInt8) : bits .or .u32 (bits .or .u32 (bits .or .u32 ((a.toNat : Int) % 4294967296 * 16777216 % 4294967296) ((b.toNat : Int) % 4294967296 * 65536 % 4294967296)) ((c.toNat : Int) % 4294967296 * 256 % 4294967296)) ((d.toNat : Int) % 4294967296) =
    (((((BitVec.ofNat 32 a.toNat <<< 24) ||| (BitVec.ofNat 32 b.toNat <<< 16)) ||| (BitVec.ofNat 32 c.toNat <<< 8)) ||| BitVec.ofNat 32 d.toNat).toNat : Int) := by
  have h1 := byteShl a 24
  have h2 := byteShl b 16
  have h3 := byteShl c 8
  have h4 := byteW d
  simp only [show ((2 : Int) ^ 24) = 16777216 from rfl, show ((2 : Int) ^ 16) = 65536 from rfl, show ((2 : Int) ^ 8) = 256 from rfl] at h1 h2 h3
  rw [h1, h2, h3, h4, orN, orN, orN]

/-- what lies in memory while a block is added: the state, the result's place, the words -/
structure M1 (w wr : World) (s : St) (g : Nat → Wd) : Prop where
  bel : Below w.heap.size w wr
  st : wr.rowIs w.heap.size 90 8 (fun i => .int .u32 (wordOf s i).toNat)
  res : wr.rowIs (w.heap.size + 1) 90 8 (fun _ => .int .u32 0)
  ws : wr.rowIs (w.heap.size + 1 + 1) 99 64 (fun j => .int .u32 (g j).toNat)

theorem M1.drew {w wr : World} {s : St} {g : Nat → Wd} (h : M1 w wr s g) (n : Nat) : M1 w (wr.drewN n) s g :=
  ⟨below_drewN h.bel n, h.st, h.res, h.ws⟩
theorem M1.set {w wr : World} {s : St} {g : Nat → Wd} (h : M1 w wr s g) (i : Nat) (v : Wd) : M1 w (wr.setCell ⟨w.heap.size + 1 + 1, i, none⟩ (.int .u32 v.toNat)) s (fun j => if j = i then v else g j) :=
  ⟨h.bel.setCell (by simp; omega) _, h.st.setOther (by simp; omega) _, h.res.setOther (by simp) _, (h.ws.set i _).congr (by intro j _; split <;> rfl)⟩

theorem M1.below {w wr w1 : World} {s : St} {g : Nat → Wd} (h : M1 w wr s g) (hb : Below wr.heap.size wr w1) : M1 w w1 s g :=
  ⟨h.bel.trans (hb.mono h.bel.size), h.st.of_block (hb.block _ h.st.lt), h.res.of_block (hb.block _ h.res.lt), h.ws.of_block (hb.block _ h.ws.lt)⟩

/-- the same with the constants and the working state -/
structure M3 (w wr : World) (s : St) (g : Nat → Wd) (bk bv : Nat) (v : St) : Prop where
  m1 : M1 w wr s g
  ks : wr.rowIs bk 99 64 (fun j => .int .u32 (kc j).toNat)
  vs : wr.rowIs bv 90 8 (fun i => .int .u32 (wordOf v i).toNat)
  k1 : w.heap.size + 1 + 1 < bk
  k2 : bk < bv
theorem M3.drew {w wr : World} {s : St} {g : Nat → Wd} {bk bv : Nat} {v : St} (h : M3 w wr s g bk bv v) (n : Nat) : M3 w (wr.drewN n) s g bk bv v :=
  ⟨h.m1.drew n, h.ks, h.vs, h.k1, h.k2⟩
theorem rowIs_of_heap {w : World} {b : Nat} {t : TypeId} {n : Nat} {f : Nat → Value} {cs : Array Value} (h : w.heap[b]? = some (.cells cs t (0, 0))) (hs : cs.size = n) (hf : ∀ i, i < n → cs[i]? = some (f i)) : w.rowIs b t n f :=
  ⟨cs, h, hs, hf⟩
theorem M3.setRow {w wr : World} {s : St} {g : Nat → Wd} {bk bv : Nat} {v : St} (h : M3 w wr s g bk bv v) (v' : St) :
    M3 w (wr.setRow bv #[.int .u32 v'.a.toNat, .int .u32 v'.b.toNat, .int .u32 v'.c.toNat, .int .u32 v'.d.toNat, .int .u32 v'.e.toNat, .int .u32 v'.f.toNat, .int .u32 v'.g.toNat, .int .u32 v'.h.toNat]) s g bk bv v' := by
  have k1 := h.k1
  have k2 := h.k2
  obtain ⟨cs, hcs, _⟩ := h.vs
  refine ⟨⟨below_setRow h.m1.bel (by omega) _, h.m1.st.of_block (setRow_other _ _ _ _ (by omega)), h.m1.res.of_block (setRow_other _ _ _ _ (by omega)), h.m1.ws.of_block (setRow_other _ _ _ _ (by omega))⟩, h.ks.of_block (setRow_other _ _ _ _ (by omega)), rowIs_of_heap (setRow_same _ _ _ _ _ hcs) rfl ?_, k1, k2⟩
  intro i hi
  have : i = 0 ∨ i = 1 ∨ i = 2 ∨ i = 3 ∨ i = 4 ∨ i = 5 ∨ i = 6 ∨ i = 7 := by omega
  rcases this with rfl | rfl | rfl | rfl | rfl | rfl | rfl | rfl <;> rfl

theorem rowIs_set8 {w : World} {b : Nat} {t : TypeId} {φ : Nat → Value} (h : w.rowIs b t 8 φ) (s : St) :
    (((((((((w.setCell ⟨b, 0, none⟩ (.int .u32 s.a.toNat)).setCell ⟨b, 1, none⟩ (.int .u32 s.b.toNat)).setCell ⟨b, 2, none⟩ (.int .u32 s.c.toNat)).setCell ⟨b, 3, none⟩ (.int .u32 s.d.toNat)).setCell ⟨b, 4, none⟩ (.int .u32 s.e.toNat)).setCell ⟨b, 5, none⟩ (.int .u32 s.f.toNat)).setCell ⟨b, 6, none⟩ (.int .u32 s.g.toNat)).setCell ⟨b, 7, none⟩ (.int .u32 s.h.toNat)) : World).rowIs b t 8 (fun i => .int .u32 (wordOf s i).toNat) := by
  refine ((((((((h.set 0 _).set 1 _).set 2 _).set 3 _).set 4 _).set 5 _).set 6 _).set 7 _).congr ?_
  intro i hi
  have : i = 0 ∨ i = 1 ∨ i = 2 ∨ i = 3 ∨ i = 4 ∨ i = 5 ∨ i = 6 ∨ i = 7 := by omega
  rcases this with rfl | rfl | rfl | rfl | rfl | rfl | rfl | rfl <;> rfl
theorem M3.set8 {w wr : World} {s : St} {g : Nat → Wd} {bk bv : Nat} {v : St} (h : M3 w wr s g bk bv v) (v' : St) :
    M3 w (((((((((wr.setCell ⟨bv, 0, none⟩ (.int .u32 v'.a.toNat)).setCell ⟨bv, 1, none⟩ (.int .u32 v'.b.toNat)).setCell ⟨bv, 2, none⟩ (.int .u32 v'.c.toNat)).setCell ⟨bv, 3, none⟩ (.int .u32 v'.d.toNat)).setCell ⟨bv, 4, none⟩ (.int .u32 v'.e.toNat)).setCell ⟨bv, 5, none⟩ (.int .u32 v'.f.toNat)).setCell ⟨bv, 6, none⟩ (.int .u32 v'.g.toNat)).setCell ⟨bv, 7, none⟩ (.int .u32 v'.h.toNat)) : World) s g bk bv v' := by
  have k1 := h.k1
  have k2 := h.k2
  refine ⟨⟨?_, ?_, ?_, ?_⟩, ?_, rowIs_set8 h.vs v', k1, k2⟩
  · refine ((((((((h.m1.bel.setCell ?_ _).setCell ?_ _).setCell ?_ _).setCell ?_ _).setCell ?_ _).setCell ?_ _).setCell ?_ _).setCell ?_ _) <;> (simp; omega)
  · refine ((((((((h.m1.st.setOther ?_ _).setOther ?_ _).setOther ?_ _).setOther ?_ _).setOther ?_ _).setOther ?_ _).setOther ?_ _).setOther ?_ _) <;> (simp; omega)
  · refine ((((((((h.m1.res.setOther ?_ _).setOther ?_ _).setOther ?_ _).setOther ?_ _).setOther ?_ _).setOther ?_ _).setOther ?_ _).setOther ?_ _) <;> (simp; omega)
  · refine ((((((((h.m1.ws.setOther ?_ _).setOther ?_ _).setOther ?_ _).setOther ?_ _).setOther ?_ _).setOther ?_ _).setOther ?_ _).setOther ?_ _) <;> (simp; omega)
  · refine ((((((((h.ks.setOther ?_ _).setOther ?_ _).setOther ?_ _).setOther ?_ _).setOther ?_ _).setOther ?_ _).setOther ?_ _).setOther ?_ _) <;> (simp; omega)

structure M4 (w wr : World) (φ : Nat → Wd) (bv : Nat) (v : St) : Prop where
  bel : Below w.heap.size w wr
  st : wr.rowIs w.heap.size 90 8 (fun i => .int .u32 (φ i).toNat)
  res : wr.rowIs (w.heap.size + 1) 90 8 (fun _ => .int .u32 0)
  vs : wr.rowIs bv 90 8 (fun i => .int .u32 (wordOf v i).toNat)
  lt : w.heap.size + 1 + 1 < bv
theorem M4.drew {w wr : World} {φ : Nat → Wd} {bv : Nat} {v : St} (h : M4 w wr φ bv v) (n : Nat) : M4 w (wr.drewN n) φ bv v :=
  ⟨below_drewN h.bel n, h.st, h.res, h.vs, h.lt⟩
theorem M4.set {w wr : World} {φ : Nat → Wd} {bv : Nat} {v : St} (h : M4 w wr φ bv v) (i : Nat) (x : Wd) : M4 w (wr.setCell ⟨w.heap.size, i, none⟩ (.int .u32 x.toNat)) (fun j => if j = i then x else φ j) bv v := by
  have := h.lt
  exact ⟨h.bel.setCell (by simp) _, (h.st.set i _).congr (by intro j _; split <;> rfl), h.res.setOther (by simp) _, h.vs.setOther (by simp; omega) _, h.lt⟩
def addAt (s v : St) (k j : Nat) : Wd := if j < k then wordOf s j + wordOf v j else wordOf s j
theorem addAt_succ (s v : St) (k : Nat) : (fun j => if j = k then wordOf s k + wordOf v k else addAt s v k j) = addAt s v (k + 1) := by
  funext j
  unfold addAt
  by_cases h : j = k
  · subst h; rw [if_pos rfl, if_pos (by omega)]
  · rw [if_neg h]
    by_cases h2 : j < k
    · rw [if_pos h2, if_pos (by omega)]
    · rw [if_neg h2, if_neg (by omega)]
theorem rowIs8_heap {w : World} {b : Nat} {t : TypeId} {φ : Nat → Wd} (h : w.rowIs b t 8 (fun i => .int .u32 (φ i).toNat)) :
    w.heap[b]? = some (.cells #[.int .u32 (φ 0).toNat, .int .u32 (φ 1).toNat, .int .u32 (φ 2).toNat, .int .u32 (φ 3).toNat, .int .u32 (φ 4).toNat, .int .u32 (φ 5).toNat, .int .u32 (φ 6).toNat, .int .u32 (φ 7).toNat] t (0, 0)) := by
  obtain ⟨cs, hc, hs, hf⟩ := h
  rw [hc]
  congr 2
  apply Array.ext_getElem?
  intro i
  by_cases hi : i < 8
  · rw [hf i hi]
    have : i = 0 ∨ i = 1 ∨ i = 2 ∨ i = 3 ∨ i = 4 ∨ i = 5 ∨ i = 6 ∨ i = 7 := by omega
    rcases this with rfl | rfl | rfl | rfl | rfl | rfl | rfl | rfl <;> rfl
  · rw [Array.getElem?_eq_none (by omega), Array.getElem?_eq_none (by simp; omega)]

theorem heap_alloc_at (w : World) (o : Obj) (n : Nat) (hn : n = w.heap.size) : (w.alloc o).heap[n]? = some o := by subst hn; exact heap_alloc_new w o

/-- the words so far, noughts behind them -/
def wsAt (f : Nat → UInt8) (t j : Nat) : Wd := if j < t then (sched f t).getD j 0 else 0
theorem sched_prefix (f : Nat → UInt8) {t j : Nat} (n : Nat) (h : j < t) : (sched f (t + n)).getD j 0 = (sched f t).getD j 0 := by
  induction n with
  | zero => rfl
  | succ n ih =>
    rw [← ih, ← Nat.add_assoc]
    show (sched f (t + n) ++ _).getD j 0 = _
    rw [List.getD_eq_getElem?_getD, List.getElem?_append_left (by rw [sched_length]; omega), ← List.getD_eq_getElem?_getD]
theorem wsAt_lt (f : Nat → UInt8) {t j : Nat} (h : j < t) : wsAt f t j = (sched f t).getD j 0 := by simp [wsAt, h]
theorem wsAt_succ (f : Nat → UInt8) (t : Nat) (v : Wd) (hv : (sched f (t + 1)).getD t 0 = v) : (fun j => if j = t then v else wsAt f t j) = wsAt f (t + 1) := by
  funext j
  unfold wsAt
  by_cases h : j = t
  · subst h; rw [if_pos rfl, if_pos (by omega), hv]
  · rw [if_neg h]
    by_cases h2 : j < t
    · rw [if_pos h2, if_pos (by omega), sched_prefix f 1 h2]
    · rw [if_neg h2, if_neg (by omega)]
theorem sched_first (f : Nat → UInt8) {t : Nat} (h : t < 16) : (sched f (t + 1)).getD t 0 = word f t := by
  show (sched f t ++ [_]).getD t 0 = _
  rw [List.getD_eq_getElem?_getD, List.getElem?_append_right (by rw [sched_length]; omega), sched_length, if_pos h]
  simp
theorem sched_later (f : Nat → UInt8) {t : Nat} (h : 16 ≤ t) : (sched f (t + 1)).getD t 0 = ((sig1 (wsAt f t (t - 2)) + wsAt f t (t - 7)) + sig0 (wsAt f t (t - 15))) + wsAt f t (t - 16) := by
  show (sched f t ++ [_]).getD t 0 = _
  rw [List.getD_eq_getElem?_getD, List.getElem?_append_right (by rw [sched_length]; omega), sched_length, if_neg (by omega), wsAt_lt f (by omega), wsAt_lt f (by omega), wsAt_lt f (by omega), wsAt_lt f (by omega)]
  simp

set_option maxRecDepth 100000 in
set_option maxHeartbeats 4000000 in
theorem rblock_any (s : St) (b off cap : Nat) (f : Nat → UInt8) (w : World) (hc : ∀ j, j < 64 → w.cell? ⟨b, off + j, none⟩ = some (.int .u8 ((f j).toNat : Int))) :
    Calls Try.prog 50 #[stV s, .slice (some ⟨b, off, none⟩) 64 cap] w fun e w' => e = .returned (stV (block s f)) ∧ Below w.heap.size w w' := by
  obtain ⟨a0, b0, c0, d0, e0, f0, g0, h0⟩ := s
  have HC := Lib.hid hc
  clear hc
  go_enter Try.func50, Try.ntmps50
  go_wp2_with fail
  go_loopw [6] (fun i wr => ∃ k : Nat, k ≤ 16 ∧ i = .int .i64 k ∧ M1 w wr ⟨a0, b0, c0, d0, e0, f0, g0, h0⟩ (wsAt f k)) (fun i _ => (16 - intOf i).toNat)
  case atStart =>
    refine ⟨0, by omega, rfl, ?_⟩
    have e8 : ∀ i, i < 8 → i = 0 ∨ i = 1 ∨ i = 2 ∨ i = 3 ∨ i = 4 ∨ i = 5 ∨ i = 6 ∨ i = 7 := by omega
    refine ⟨((((Below.refl _ _).alloc (Nat.le_refl _) _).alloc (by simp) _).alloc (by simp; omega) _), ?_, ?_, ?_⟩
    · refine World.rowIs.alloc (World.rowIs.alloc (World.rowIs_alloc w _ _ _ ?_) _) _
      intro i hi
      rcases e8 i hi with rfl | rfl | rfl | rfl | rfl | rfl | rfl | rfl <;> rfl
    · refine World.rowIs.alloc (rowIs_of_heap (heap_alloc_at _ _ _ (by simp)) rfl ?_) _
      intro i hi
      rcases e8 i hi with rfl | rfl | rfl | rfl | rfl | rfl | rfl | rfl <;> rfl
    · refine rowIs_of_heap (heap_alloc_at _ _ _ (by simp)) rfl ?_
      intro i hi
      show (Array.replicate 64 (Value.int .u32 0))[i]? = some (.int .u32 0)
      simp [hi]
  case round =>
    obtain ⟨k, hk, rfl, hM⟩ := hrel
    by_cases hlt : k < 16
    · skip
      have hcell : ∀ j, j < 64 → wr.cell? ⟨b, off + j, none⟩ = some (.int .u8 ((f j).toNat : Int)) := fun j hj => (hM.bel.cell (p := ⟨b, off + j, none⟩) (World.block_lt_of_cell? w _ (HC.out j hj))).trans (HC.out j hj)
      have x0 := hcell (4 * k) (by omega)
      have x1 := hcell (4 * k + 1) (by omega)
      have x2 := hcell (4 * k + 2) (by omega)
      have x3 := hcell (4 * k + 3) (by omega)
      have HM := Lib.hid hM
      have y0 : wr.cell? ⟨w.heap.size + 1 + 1, k, none⟩ = some (.int .u32 (wsAt f k k).toNat) := hM.ws.cell (by omega)
      have y1 : wr.frozen? ⟨w.heap.size + 1 + 1, k, none⟩ = false := hM.ws.frozen k
      clear hcell hM
      go_wp2_with fail
      have q0 : IntKind.i64.wrap (4 * (k : Int)) = 4 * (k : Int) := IntWalk.i64_in _ (by omega)
      have q1 : IntKind.i64.wrap (4 * (k : Int) + 1) = 4 * (k : Int) + 1 := IntWalk.i64_in _ (by omega)
      have q2 : IntKind.i64.wrap (4 * (k : Int) + 2) = 4 * (k : Int) + 2 := IntWalk.i64_in _ (by omega)
      have q3 : IntKind.i64.wrap (4 * (k : Int) + 3) = 4 * (k : Int) + 3 := IntWalk.i64_in _ (by omega)
      have n0 : (4 * (k : Int)).toNat = 4 * k := by omega
      have n1 : (4 * (k : Int) + 1).toNat = 4 * k + 1 := by omega
      have n2 : (4 * (k : Int) + 2).toNat = 4 * k + 2 := by omega
      have n3 : (4 * (k : Int) + 3).toNat = 4 * k + 3 := by omega
      have p0 : (4 * (k : Int)) < 64 := by omega
      have p1 : (4 * (k : Int)) + 1 < 64 := by omega
      have p2 : (4 * (k : Int)) + 2 < 64 := by omega
      have p3 : (4 * (k : Int)) + 3 < 64 := by omega
      have r0 : 0 ≤ (4 * (k : Int)) := by omega
      have r1 : 0 ≤ (4 * (k : Int)) + 1 := by omega
      have r2 : 0 ≤ (4 * (k : Int)) + 2 := by omega
      have r3 : 0 ≤ (4 * (k : Int)) + 3 := by omega
      have x0' : wr.cell? ⟨b, off + (4 * k + 1), none⟩ = some (.int .u8 ((f (4 * k + 1)).toNat : Int)) := x1
      go_still_tail 34, (by kernel_rfl)
      change wpList _ _ _ _ _ (wr.drewN 1)
      go_wp2_with fail
      go_roundw
      case rel =>
        refine ⟨k + 1, by omega, by go_num, ?_⟩
        rw [be_word]
        have h := (HM.out.drew 1).set k (word f k)
        rw [wsAt_succ f k _ (sched_first f hlt)] at h
        exact h
      case measure => simp [intOf]; omega
    · obtain rfl : k = 16 := by omega
      obtain ⟨wo, rfl⟩ : ∃ wo : World, wo = wr := ⟨_, rfl⟩
      have HM := Lib.hid hM
      clear hM hlt
      rw [show ((16 : Nat) : Int) = 16 from rfl]
      go_wp2_with fail
      go_loopw [7] (fun i wr => ∃ k : Nat, 16 ≤ k ∧ k ≤ 64 ∧ i = .int .i64 k ∧ M1 w wr ⟨a0, b0, c0, d0, e0, f0, g0, h0⟩ (wsAt f k)) (fun i _ => (64 - intOf i).toNat)
      case atStart => exact ⟨16, by omega, by omega, rfl, HM.out⟩
      case round =>
        obtain ⟨k, hk1, hk, rfl, hM⟩ := hrel
        clear HM
        by_cases hlt : k < 64
        · skip
          obtain ⟨x, hx⟩ : ∃ x, wsAt f k (k - 15) = x := ⟨_, rfl⟩
          obtain ⟨y, hy⟩ : ∃ x, wsAt f k (k - 2) = x := ⟨_, rfl⟩
          obtain ⟨z, hz⟩ : ∃ x, wsAt f k (k - 7) = x := ⟨_, rfl⟩
          obtain ⟨u, hu⟩ : ∃ x, wsAt f k (k - 16) = x := ⟨_, rfl⟩
          have x0 : wr.cell? ⟨w.heap.size + 1 + 1, k - 15, none⟩ = some (.int .u32 x.toNat) := by rw [← hx]; exact hM.ws.cell (by omega)
          have x1 : wr.cell? ⟨w.heap.size + 1 + 1, k - 2, none⟩ = some (.int .u32 y.toNat) := by rw [← hy]; exact hM.ws.cell (by omega)
          have x2 : wr.cell? ⟨w.heap.size + 1 + 1, k - 7, none⟩ = some (.int .u32 z.toNat) := by rw [← hz]; exact hM.ws.cell (by omega)
          have x3 : wr.cell? ⟨w.heap.size + 1 + 1, k - 16, none⟩ = some (.int .u32 u.toNat) := by rw [← hu]; exact hM.ws.cell (by omega)
          have HS : Hid ((sched f (k + 1)).getD k 0 = ((sig1 y + z) + sig0 x) + u) := by show _ = _; rw [sched_later f hk1, hx, hy, hz, hu]
          have HM := Lib.hid hM
          have y0 : wr.cell? ⟨w.heap.size + 1 + 1, k, none⟩ = some (.int .u32 (wsAt f k k).toNat) := hM.ws.cell (by omega)
          have y1 : wr.frozen? ⟨w.heap.size + 1 + 1, k, none⟩ = false := hM.ws.frozen k
          clear hx hy hz hu hM
          have q0 : IntKind.i64.wrap ((k : Int) - 15) = (k : Int) - 15 := IntWalk.i64_in _ (by omega)
          have q1 : IntKind.i64.wrap ((k : Int) - 2) = (k : Int) - 2 := IntWalk.i64_in _ (by omega)
          have q2 : IntKind.i64.wrap ((k : Int) - 7) = (k : Int) - 7 := IntWalk.i64_in _ (by omega)
          have q3 : IntKind.i64.wrap ((k : Int) - 16) = (k : Int) - 16 := IntWalk.i64_in _ (by omega)
          have n0 : ((k : Int) - 15).toNat = k - 15 := by omega
          have n1 : ((k : Int) - 2).toNat = k - 2 := by omega
          have n2 : ((k : Int) - 7).toNat = k - 7 := by omega
          have n3 : ((k : Int) - 16).toNat = k - 16 := by omega
          have p0 : (k : Int) - 15 < 64 := by omega
          have p1 : (k : Int) - 2 < 64 := by omega
          have p2 : (k : Int) - 7 < 64 := by omega
          have p3 : (k : Int) - 16 < 64 := by omega
          have r0 : 0 ≤ (k : Int) - 15 := by omega
          have r1 : 0 ≤ (k : Int) - 2 := by omega
          have r2 : 0 ≤ (k : Int) - 7 := by omega
          have r3 : 0 ≤ (k : Int) - 16 := by omega
          have s2 : (7 : Int) ≤ k := by omega
          have s3 : (16 : Int) ≤ k := by omega
          go_wp2_with fail
          go_quiet (fail)
          go_wp2_with fail
          go_region_held3 (fun w' => w'.cell? ⟨w.heap.size + 1 + 1, k - 7, none⟩ = some (.int .u32 z.toNat) ∧ w'.cell? ⟨w.heap.size + 1 + 1, k - 16, none⟩ = some (.int .u32 u.toNat)) (first | go_keep | exact ⟨(World.cell?_setCell_other _ _ _ _ (by first | (simp; done) | (simp; omega))).trans x2, (World.cell?_setCell_other _ _ _ _ (by first | (simp; done) | (simp; omega))).trans x3⟩)
            (first | (go_at_call 60; refine (turn_lit _ _ (by omega) _).mono ?_; rintro e w' ⟨rfl, m, rfl⟩))
          go_wp2_with fail
          have hval : (((bits .xor .u32 (bits .xor .u32 ((rotr y 17).toNat : Int) ((rotr y 19).toNat : Int)) ((y.toNat : Int) / 1024) + (z.toNat : Int)) % 4294967296 + bits .xor .u32 (bits .xor .u32 ((rotr x 7).toNat : Int) ((rotr x 18).toNat : Int)) ((x.toNat : Int) / 8)) % 4294967296 + (u.toNat : Int)) % 4294967296 = ((((sig1 y + z) + sig0 x) + u).toNat : Int) := by
            have h1 := shrN y 10
            have h2 := shrN x 3
            simp only [show ((2 : Int) ^ 10) = 1024 from rfl, show ((2 : Int) ^ 3) = 8 from rfl] at h1 h2
            rw [h1, h2]
            simp only [xorN, addM]
            rfl
          go_roundw
          case rel =>
            refine ⟨k + 1, by omega, by omega, by go_num, ?_⟩
            rw [hval, ← HS.out, ← wsAt_succ f k _ rfl]
            exact (HM.out.drew _).set k _
          case measure => simp [intOf]; omega
        · obtain rfl : k = 64 := by omega
          obtain ⟨wp, rfl⟩ : ∃ wo : World, wo = wr := ⟨_, rfl⟩
          have HM := Lib.hid hM
          clear hM hlt
          rw [show ((64 : Nat) : Int) = 64 from rfl]
          go_wp2_with fail
          refine (constants_any _).mono ?_; rintro e w1 ⟨rfl, hbk⟩
          go_wp2_with (refine wpList_store_rowTo rfl 99 (.tmp 10) (.tmp 98) rfl rfl w1.heap.size kArr rfl rfl _ _ (heap_alloc_new _ _) (by kernel_rfl) rfl (by kernel_rfl) ?_; refine halted ?_)
          change wpList _ _ _ _ _ _
          have hsz1 := hbk.size
          generalize hW : World.setRow _ _ _ = wq
          have hb2 : Below wp.heap.size wp wq := by rw [← hW]; exact below_setRow (hbk.alloc hsz1 _) hsz1 _
          have hM1 := HM.out.below hb2
          have hks : World.rowIs wq w1.heap.size 99 64 (fun j => .int .u32 (kc j).toNat) := by rw [← hW]; exact rowIs_of_heap (setRow_same _ _ _ _ _ (heap_alloc_new _ _)) rfl kArr_get
          have hszq : wq.heap.size = w1.heap.size + 1 := by rw [← hW]; simp
          have HM1 := Lib.hid hM1
          have HKS := Lib.hid hks
          have hq2 := hM1.bel.size
          have hq3 : w.heap.size + 1 + 1 < w1.heap.size := by have := HM.out.ws.lt; omega
          have xc0 : wq.cell? ⟨w.heap.size, 0, none⟩ = some (.int .u32 a0.toNat) := hM1.st.cell (i := 0) (by omega)
          have xc1 : wq.cell? ⟨w.heap.size, 1, none⟩ = some (.int .u32 b0.toNat) := hM1.st.cell (i := 1) (by omega)
          have xc2 : wq.cell? ⟨w.heap.size, 2, none⟩ = some (.int .u32 c0.toNat) := hM1.st.cell (i := 2) (by omega)
          have xc3 : wq.cell? ⟨w.heap.size, 3, none⟩ = some (.int .u32 d0.toNat) := hM1.st.cell (i := 3) (by omega)
          have xc4 : wq.cell? ⟨w.heap.size, 4, none⟩ = some (.int .u32 e0.toNat) := hM1.st.cell (i := 4) (by omega)
          have xc5 : wq.cell? ⟨w.heap.size, 5, none⟩ = some (.int .u32 f0.toNat) := hM1.st.cell (i := 5) (by omega)
          have xc6 : wq.cell? ⟨w.heap.size, 6, none⟩ = some (.int .u32 g0.toNat) := hM1.st.cell (i := 6) (by omega)
          have xc7 : wq.cell? ⟨w.heap.size, 7, none⟩ = some (.int .u32 h0.toNat) := hM1.st.cell (i := 7) (by omega)
          clear hM1 hks hW hbk hb2 HM
          have HSZ := Lib.hid hszq
          have hszq2 : w1.heap.size < wq.heap.size := by omega
          clear hszq
          go_wp2_with fail
          have hM3 : M3 w (wq.alloc (Obj.cells #[.int .u32 a0.toNat, .int .u32 b0.toNat, .int .u32 c0.toNat, .int .u32 d0.toNat, .int .u32 e0.toNat, .int .u32 f0.toNat, .int .u32 g0.toNat, .int .u32 h0.toNat] 90)) ⟨a0, b0, c0, d0, e0, f0, g0, h0⟩ (wsAt f 64) w1.heap.size wq.heap.size ⟨a0, b0, c0, d0, e0, f0, g0, h0⟩ := by
            refine ⟨HM1.out.below ((Below.refl _ _).alloc (Nat.le_refl _) _), HKS.out.alloc _, rowIs_of_heap (heap_alloc_new _ _) rfl ?_, hq3, by omega⟩
            intro i hi
            have : i = 0 ∨ i = 1 ∨ i = 2 ∨ i = 3 ∨ i = 4 ∨ i = 5 ∨ i = 6 ∨ i = 7 := by omega
            rcases this with rfl | rfl | rfl | rfl | rfl | rfl | rfl | rfl <;> rfl
          have HM3 := Lib.hid hM3
          clear hM3 xc0 xc1 xc2 xc3 xc4 xc5 xc6 xc7
          go_loopw [12] (fun i wr => ∃ k : Nat, k ≤ 64 ∧ i = .int .i64 k ∧ M3 w wr ⟨a0, b0, c0, d0, e0, f0, g0, h0⟩ (wsAt f 64) w1.heap.size wq.heap.size (comp ⟨a0, b0, c0, d0, e0, f0, g0, h0⟩ (sched f 64) k)) (fun i _ => (64 - intOf i).toNat)
          case atStart => exact ⟨0, by omega, rfl, HM3.out⟩
          case round =>
            obtain ⟨k, hk, rfl, hM⟩ := hrel
            clear HM3
            by_cases hlt : k < 64
            · skip
              obtain ⟨va, vb, vc, vd, ve, vf, vg, vh, hv⟩ : ∃ va vb vc vd ve vf vg vh, comp ⟨a0, b0, c0, d0, e0, f0, g0, h0⟩ (sched f 64) k = ⟨va, vb, vc, vd, ve, vf, vg, vh⟩ := ⟨_, _, _, _, _, _, _, _, rfl⟩
              have HV : Hid (comp ⟨a0, b0, c0, d0, e0, f0, g0, h0⟩ (sched f 64) (k + 1) = round ⟨va, vb, vc, vd, ve, vf, vg, vh⟩ (kc k) (wsAt f 64 k)) := by
                show _ = _
                rw [wsAt_lt f (by omega)]
                show round (comp _ _ k) _ _ = _
                rw [hv]
              rw [hv] at hM
              clear hv
              have hs0 := hM.m1.bel.size
              have hs1 := hM.k1
              have hs2 := hM.k2
              have hs3 := hM.vs.lt
              have xc0 : wr.cell? ⟨wq.heap.size, 0, none⟩ = some (.int .u32 va.toNat) := hM.vs.cell (i := 0) (by omega)
              have xc1 : wr.cell? ⟨wq.heap.size, 1, none⟩ = some (.int .u32 vb.toNat) := hM.vs.cell (i := 1) (by omega)
              have xc2 : wr.cell? ⟨wq.heap.size, 2, none⟩ = some (.int .u32 vc.toNat) := hM.vs.cell (i := 2) (by omega)
              have xc3 : wr.cell? ⟨wq.heap.size, 3, none⟩ = some (.int .u32 vd.toNat) := hM.vs.cell (i := 3) (by omega)
              have xc4 : wr.cell? ⟨wq.heap.size, 4, none⟩ = some (.int .u32 ve.toNat) := hM.vs.cell (i := 4) (by omega)
              have xc5 : wr.cell? ⟨wq.heap.size, 5, none⟩ = some (.int .u32 vf.toNat) := hM.vs.cell (i := 5) (by omega)
              have xc6 : wr.cell? ⟨wq.heap.size, 6, none⟩ = some (.int .u32 vg.toNat) := hM.vs.cell (i := 6) (by omega)
              have xc7 : wr.cell? ⟨wq.heap.size, 7, none⟩ = some (.int .u32 vh.toNat) := hM.vs.cell (i := 7) (by omega)
              have xf0 : wr.frozen? ⟨wq.heap.size, 0, none⟩ = false := hM.vs.frozen 0
              have xf1 : wr.frozen? ⟨wq.heap.size, 1, none⟩ = false := hM.vs.frozen 1
              have xf2 : wr.frozen? ⟨wq.heap.size, 2, none⟩ = false := hM.vs.frozen 2
              have xf3 : wr.frozen? ⟨wq.heap.size, 3, none⟩ = false := hM.vs.frozen 3
              have xf4 : wr.frozen? ⟨wq.heap.size, 4, none⟩ = false := hM.vs.frozen 4
              have xf5 : wr.frozen? ⟨wq.heap.size, 5, none⟩ = false := hM.vs.frozen 5
              have xf6 : wr.frozen? ⟨wq.heap.size, 6, none⟩ = false := hM.vs.frozen 6
              have xf7 : wr.frozen? ⟨wq.heap.size, 7, none⟩ = false := hM.vs.frozen 7
              obtain ⟨kk, hkk⟩ : ∃ x, kc k = x := ⟨_, rfl⟩
              obtain ⟨ww, hww⟩ : ∃ x, wsAt f 64 k = x := ⟨_, rfl⟩
              have xc8 : wr.cell? ⟨w1.heap.size, k, none⟩ = some (.int .u32 kk.toNat) := by rw [← hkk]; exact hM.ks.cell hlt
              have xc9 : wr.cell? ⟨w.heap.size + 1 + 1, k, none⟩ = some (.int .u32 ww.toNat) := by rw [← hww]; exact hM.m1.ws.cell hlt
              rw [hkk, hww] at HV
              clear hkk hww
              have HM := Lib.hid hM
              clear hM
              have p0 : (k : Int) < 64 := by omega
              have p1 : (0 : Int) ≤ k := by omega
              have hX : ((vh.toNat : Int) + bits .xor .u32 (bits .xor .u32 ((rotr ve 6).toNat : Int) ((rotr ve 11).toNat : Int)) ((rotr ve 25).toNat : Int) + bits .xor .u32 (bits .and .u32 (ve.toNat : Int) (vf.toNat : Int)) (bits .and .u32 (bits .xor .u32 IntKind.u32.max (ve.toNat : Int)) (vg.toNat : Int)) + (kk.toNat : Int) + (ww.toNat : Int)) % 4294967296 =
                  ((((((vh + ((rotr ve 6 ^^^ rotr ve 11) ^^^ rotr ve 25)) + ((ve &&& vf) ^^^ (~~~ve &&& vg))) + kk) + ww) : Wd).toNat : Int) := by
                simp only [xorN, andN, notN]
                exact addM5 _ _ _ _ _
              have hY : (bits .xor .u32 (bits .xor .u32 ((rotr va 2).toNat : Int) ((rotr va 13).toNat : Int)) ((rotr va 22).toNat : Int) + bits .xor .u32 (bits .xor .u32 (bits .and .u32 (va.toNat : Int) (vb.toNat : Int)) (bits .and .u32 (va.toNat : Int) (vc.toNat : Int))) (bits .and .u32 (vb.toNat : Int) (vc.toNat : Int))) % 4294967296 =
                  ((((rotr va 2 ^^^ rotr va 13) ^^^ rotr va 22) + (((va &&& vb) ^^^ (va &&& vc)) ^^^ (vb &&& vc)) : Wd).toNat : Int) := by
                simp only [xorN, andN]
                exact addM _ _
              obtain ⟨X, hXe⟩ : ∃ X : Wd, (((vh + ((rotr ve 6 ^^^ rotr ve 11) ^^^ rotr ve 25)) + ((ve &&& vf) ^^^ (~~~ve &&& vg))) + kk) + ww = X := ⟨_, rfl⟩
              obtain ⟨Y, hYe⟩ : ∃ Y : Wd, ((rotr va 2 ^^^ rotr va 13) ^^^ rotr va 22) + (((va &&& vb) ^^^ (va &&& vc)) ^^^ (vb &&& vc)) = Y := ⟨_, rfl⟩
              rw [hXe] at hX
              rw [hYe] at hY
              have HR : Hid (round ⟨va, vb, vc, vd, ve, vf, vg, vh⟩ kk ww = ⟨X + Y, va, vb, vc, vd + X, ve, vf, vg⟩) := by
                show _ = _
                rw [← hXe, ← hYe]
                rfl
              have HX := Lib.hid hX
              have HY0 : Hid (((X.toNat : Int) + (bits .xor .u32 (bits .xor .u32 ((rotr va 2).toNat : Int) ((rotr va 13).toNat : Int)) ((rotr va 22).toNat : Int) + bits .xor .u32 (bits .xor .u32 (bits .and .u32 (va.toNat : Int) (vb.toNat : Int)) (bits .and .u32 (va.toNat : Int) (vc.toNat : Int))) (bits .and .u32 (vb.toNat : Int) (vc.toNat : Int)))) % 4294967296 = ((X + Y).toNat : Int)) := by
                show _ = _
                rw [← addM, ← hY]
                omega
              clear hX hY hXe hYe
              have HE : Hid ((((X.toNat : Int) + Y.toNat) % 4294967296 = ((X + Y).toNat : Int)) ∧ (((vd.toNat : Int) + X.toNat) % 4294967296 = ((vd + X).toNat : Int))) := ⟨addM X Y, addM vd X⟩
              go_wp2_with fail
              go_quiet (fail)
              go_wp2_with fail
              go_quiet ((go_at_call 60; first | exact Calls.quiet_of (turn_lit _ _ (by omega) _) | exact quiet_add (turn_lit _ _ (by omega) _)))
              go_wp2_with fail
              rw [HX.out]
              go_quiet ((go_at_call 60; first | exact Calls.quiet_of (turn_lit _ _ (by omega) _) | exact quiet_add (turn_lit _ _ (by omega) _)))
              go_wp2_with fail
              go_roundw
              case rel =>
                refine ⟨k + 1, by omega, by go_num, ?_⟩
                rw [HV.out, HR.out, HY0.out, HE.out.2]
                exact (HM.out.drew _).set8 ⟨X + Y, va, vb, vc, vd + X, ve, vf, vg⟩
              case measure => simp [intOf]; omega
            · obtain rfl : k = 64 := by omega
              obtain ⟨wt, rfl⟩ : ∃ wo : World, wo = wr := ⟨_, rfl⟩
              have HM := Lib.hid hM
              clear hM hlt
              rw [show ((64 : Nat) : Int) = 64 from rfl]
              go_wp2_with fail
              obtain ⟨vv, hvv⟩ : ∃ vv, comp ⟨a0, b0, c0, d0, e0, f0, g0, h0⟩ (sched f 64) 64 = vv := ⟨_, rfl⟩
              have HVV := Lib.hid hvv
              rw [hvv] at HM
              clear hvv
              go_loopw [180] (fun i wr => ∃ k : Nat, k ≤ 8 ∧ i = .int .i64 k ∧ M4 w wr (addAt ⟨a0, b0, c0, d0, e0, f0, g0, h0⟩ vv k) wq.heap.size vv) (fun i _ => (8 - intOf i).toNat)
              case atStart =>
                have hm := HM.out
                have k1 := hm.k1
                have k2 := hm.k2
                exact ⟨0, by omega, rfl, hm.m1.bel, hm.m1.st.congr (fun i _ => by simp [addAt]), hm.m1.res, hm.vs, by omega⟩
              case round =>
                obtain ⟨k, hk, rfl, hM⟩ := hrel
                clear HM
                by_cases hlt : k < 8
                · obtain ⟨x, hx⟩ : ∃ x, wordOf (⟨a0, b0, c0, d0, e0, f0, g0, h0⟩ : St) k = x := ⟨_, rfl⟩
                  obtain ⟨y, hy⟩ : ∃ x, wordOf vv k = x := ⟨_, rfl⟩
                  have x0 : wr.cell? ⟨w.heap.size, k, none⟩ = some (.int .u32 x.toNat) := by
                    have := hM.st.cell hlt
                    simp only [addAt, Nat.lt_irrefl, if_false, hx] at this
                    exact this
                  have x1 : wr.cell? ⟨wq.heap.size, k, none⟩ = some (.int .u32 y.toNat) := by rw [← hy]; exact hM.vs.cell hlt
                  have x2 : wr.frozen? ⟨w.heap.size, k, none⟩ = false := hM.st.frozen k
                  have HA : Hid ((fun j => if j = k then x + y else addAt ⟨a0, b0, c0, d0, e0, f0, g0, h0⟩ vv k j) = addAt ⟨a0, b0, c0, d0, e0, f0, g0, h0⟩ vv (k + 1)) := by
                    show _ = _
                    rw [← hx, ← hy]
                    exact addAt_succ _ _ k
                  have HM := Lib.hid hM
                  clear hx hy hM
                  have p0 : (k : Int) < 8 := by omega
                  have p1 : (0 : Int) ≤ k := by omega
                  have HX := Lib.hid (addM x y)
                  go_wp2_with fail
                  go_still_tail 7, (by kernel_rfl)
                  change wpList _ _ _ _ _ (wr.drewN 1)
                  go_wp2_with fail
                  go_roundw
                  case rel =>
                    refine ⟨k + 1, by omega, by go_num, ?_⟩
                    rw [HX.out, ← HA.out]
                    exact (HM.out.drew _).set k _
                  case measure => simp [intOf]; omega
                · obtain rfl : k = 8 := by omega
                  obtain ⟨wu, rfl⟩ : ∃ wo : World, wo = wr := ⟨_, rfl⟩
                  have xc0 : wu.cell? ⟨w.heap.size, 0, none⟩ = some (.int .u32 _) := hM.st.cell (i := 0) (by omega)
                  have xc1 : wu.cell? ⟨w.heap.size, 1, none⟩ = some (.int .u32 _) := hM.st.cell (i := 1) (by omega)
                  have xc2 : wu.cell? ⟨w.heap.size, 2, none⟩ = some (.int .u32 _) := hM.st.cell (i := 2) (by omega)
                  have xc3 : wu.cell? ⟨w.heap.size, 3, none⟩ = some (.int .u32 _) := hM.st.cell (i := 3) (by omega)
                  have xc4 : wu.cell? ⟨w.heap.size, 4, none⟩ = some (.int .u32 _) := hM.st.cell (i := 4) (by omega)
                  have xc5 : wu.cell? ⟨w.heap.size, 5, none⟩ = some (.int .u32 _) := hM.st.cell (i := 5) (by omega)
                  have xc6 : wu.cell? ⟨w.heap.size, 6, none⟩ = some (.int .u32 _) := hM.st.cell (i := 6) (by omega)
                  have xc7 : wu.cell? ⟨w.heap.size, 7, none⟩ = some (.int .u32 _) := hM.st.cell (i := 7) (by omega)
                  have xr0 : wu.cell? ⟨w.heap.size + 1, 0, none⟩ = some (.int .u32 0) := hM.res.cell (i := 0) (by omega)
                  have xf0 : wu.frozen? ⟨w.heap.size + 1, 0, none⟩ = false := hM.res.frozen 0
                  have xr1 : wu.cell? ⟨w.heap.size + 1, 1, none⟩ = some (.int .u32 0) := hM.res.cell (i := 1) (by omega)
                  have xf1 : wu.frozen? ⟨w.heap.size + 1, 1, none⟩ = false := hM.res.frozen 1
                  have xr2 : wu.cell? ⟨w.heap.size + 1, 2, none⟩ = some (.int .u32 0) := hM.res.cell (i := 2) (by omega)
                  have xf2 : wu.frozen? ⟨w.heap.size + 1, 2, none⟩ = false := hM.res.frozen 2
                  have xr3 : wu.cell? ⟨w.heap.size + 1, 3, none⟩ = some (.int .u32 0) := hM.res.cell (i := 3) (by omega)
                  have xf3 : wu.frozen? ⟨w.heap.size + 1, 3, none⟩ = false := hM.res.frozen 3
                  have xr4 : wu.cell? ⟨w.heap.size + 1, 4, none⟩ = some (.int .u32 0) := hM.res.cell (i := 4) (by omega)
                  have xf4 : wu.frozen? ⟨w.heap.size + 1, 4, none⟩ = false := hM.res.frozen 4
                  have xr5 : wu.cell? ⟨w.heap.size + 1, 5, none⟩ = some (.int .u32 0) := hM.res.cell (i := 5) (by omega)
                  have xf5 : wu.frozen? ⟨w.heap.size + 1, 5, none⟩ = false := hM.res.frozen 5
                  have xr6 : wu.cell? ⟨w.heap.size + 1, 6, none⟩ = some (.int .u32 0) := hM.res.cell (i := 6) (by omega)
                  have xf6 : wu.frozen? ⟨w.heap.size + 1, 6, none⟩ = false := hM.res.frozen 6
                  have xr7 : wu.cell? ⟨w.heap.size + 1, 7, none⟩ = some (.int .u32 0) := hM.res.cell (i := 7) (by omega)
                  have xf7 : wu.frozen? ⟨w.heap.size + 1, 7, none⟩ = false := hM.res.frozen 7
                  have HM := Lib.hid hM
                  clear hM hlt
                  rw [show ((8 : Nat) : Int) = 8 from rfl]
                  go_wp2_with fail
                  have hr := rowIs_set8 HM.out.res (⟨addAt ⟨a0, b0, c0, d0, e0, f0, g0, h0⟩ vv 8 0, addAt ⟨a0, b0, c0, d0, e0, f0, g0, h0⟩ vv 8 1, addAt ⟨a0, b0, c0, d0, e0, f0, g0, h0⟩ vv 8 2, addAt ⟨a0, b0, c0, d0, e0, f0, g0, h0⟩ vv 8 3,
                    addAt ⟨a0, b0, c0, d0, e0, f0, g0, h0⟩ vv 8 4, addAt ⟨a0, b0, c0, d0, e0, f0, g0, h0⟩ vv 8 5, addAt ⟨a0, b0, c0, d0, e0, f0, g0, h0⟩ vv 8 6, addAt ⟨a0, b0, c0, d0, e0, f0, g0, h0⟩ vv 8 7⟩ : St)
                  refine bodyPost_ret (results_cell_row rfl _ _ (w.heap.size + 1) _ _ (0, 0) _ rfl (rowIs8_heap hr) Try.underlying90 rfl (by kernel_rfl)) rfl ⟨?_, ?_⟩
                  · show _ = Ending.returned (stV (addSt _ (comp _ _ _)))
                    rw [HVV.out]
                    rfl
                  · refine ((((((((HM.out.bel.setCell ?_ _).setCell ?_ _).setCell ?_ _).setCell ?_ _).setCell ?_ _).setCell ?_ _).setCell ?_ _).setCell ?_ _) <;> simp
end Go.Proofs.Ytnhggaghidbniaa
