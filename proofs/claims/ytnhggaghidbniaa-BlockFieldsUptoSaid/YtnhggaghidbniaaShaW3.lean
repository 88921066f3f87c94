/- The program's schedule of the words of a block. -/
import Derived.Test.YtnhggaghidbniaaShaW2
import Derived.Laws.Rows
namespace Go.Proofs.Ytnhggaghidbniaa
open Go.RowKit
set_option linter.unusedVariables false
open ShaW Sha

theorem quiet_grow {P : Program} {f : FuncId} {args : Array Value} {w : World} {a : Nat} {v : Value}
    (h : Calls P f args (w.drewN a) fun e w' => e = .returned v ∧ ∃ m, w' = (w.drewN a).drewN m) :
    Calls P f args (w.drewN a) fun e w'' => e = .returned v ∧ ∃ m, w'' = w.drewN m :=
  h.mono fun _ _ ⟨he, m, hm⟩ => ⟨he, a + m, by rw [hm, World.drewN_drewN]⟩

theorem addM4 (a b c d : Wd) : ((a.toNat : Int) + b.toNat + c.toNat + d.toNat) % 4294967296 = ((((a + b) + c) + d).toNat : Int) := by
  simp only [BitVec.toNat_add]; omega

structure MS (w wr : World) (g : Nat → Wd) : Prop where
  bel : Below w.heap.size w wr
  ret : wr.rowIs w.heap.size 99 64 (fun _ => .int .u32 0)
  ws : wr.rowIs (w.heap.size + 1) 99 64 (fun j => .int .u32 (g j).toNat)
theorem MS.drew {w wr : World} {g : Nat → Wd} (h : MS w wr g) (n : Nat) : MS w (wr.drewN n) g := ⟨below_drewN h.bel n, h.ret, h.ws⟩
theorem MS.set {w wr : World} {g : Nat → Wd} (h : MS w wr g) (i : Nat) (v : Wd) : MS w (wr.setCell ⟨w.heap.size + 1, i, none⟩ (.int .u32 v.toNat)) (fun j => if j = i then v else g j) :=
  ⟨h.bel.setCell (by simp) _, h.ret.setOther (by simp) _, (h.ws.set i _).congr (by intro j _; split <;> rfl)⟩

/-- a row of words as a value -/
def Words (n : Nat) (g : Nat → Wd) (cs : Array Value) : Prop := cs.size = n ∧ ∀ i, i < n → cs[i]? = some (.int .u32 (g i).toNat)
theorem Words.one {n : Nat} {g : Nat → Wd} {cs : Array Value} (h : Words n g cs) : cs.all (·.oneCell') = true := by
  rw [Array.all_eq_true]
  intro i hi
  have := h.2 i (h.1 ▸ hi)
  rw [Array.getElem?_eq_getElem hi] at this
  rw [Option.some.inj this]
  rfl
theorem rowIs.words {w : World} {b : Nat} {t : TypeId} {n : Nat} {g : Nat → Wd} (h : w.rowIs b t n (fun i => .int .u32 (g i).toNat)) :
    ∃ cs, Words n g cs ∧ w.heap[b]? = some (.cells cs t (0, 0)) := by
  obtain ⟨cs, hc, hs, hf⟩ := h
  exact ⟨cs, ⟨hs, hf⟩, hc⟩

set_option maxRecDepth 100000 in
set_option maxHeartbeats 4000000 in
theorem schedule_any (b off cap : Nat) (f : Nat → UInt8) (w : World) (hc : ∀ j, j < 64 → w.cell? ⟨b, off + j, none⟩ = some (.int .u8 ((f j).toNat : Int))) :
    Calls Try.prog 63 #[.slice (some ⟨b, off, none⟩) 64 cap] w fun e w' => ∃ cs, (Words 64 (wsAt f 64) cs ∧ e = .returned (.agg cs)) ∧ Below w.heap.size w w' := by
  have HC := Lib.hid hc
  clear hc
  go_enter Try.func63, Try.ntmps63
  go_wp2_with fail
  go_loopw [10] (fun i wr => ∃ k : Nat, k ≤ 16 ∧ i = .int .i64 k ∧ MS w wr (wsAt f k)) (fun i _ => (16 - intOf i).toNat)
  case atStart =>
    refine ⟨0, by omega, rfl, ?_⟩
    refine ⟨(((Below.refl _ _).alloc (Nat.le_refl _) _).alloc (by simp) _), ?_, ?_⟩
    · refine World.rowIs.alloc (rowIs_of_heap (heap_alloc_at _ _ _ rfl) rfl ?_) _
      intro i hi
      show (Array.replicate 64 (Value.int .u32 0))[i]? = some (.int .u32 0)
      exact Array.getElem?_replicate.trans (if_pos hi)
    · refine rowIs_of_heap (heap_alloc_at _ _ _ (by simp)) rfl ?_
      intro i hi
      show (Array.replicate 64 (Value.int .u32 0))[i]? = some (.int .u32 0)
      exact Array.getElem?_replicate.trans (if_pos hi)
  case round =>
    obtain ⟨k, hk, rfl, hM⟩ := hrel
    by_cases hlt : k < 16
    · skip
      have hcell : ∀ j, j < 64 → wr.cell? ⟨b, off + j, none⟩ = some (.int .u8 ((f j).toNat : Int)) := fun j hj => (hM.bel.cell (p := ⟨b, off + j, none⟩) (World.block_lt_of_cell? w _ (HC.out j hj))).trans (HC.out j hj)
      have x0 := hcell (4 * k) (by omega)
      have x1 := hcell (4 * k + 1) (by omega)
      have x2 := hcell (4 * k + 2) (by omega)
      have x3 := hcell (4 * k + 3) (by omega)
      have HM := Lib.hid hM
      have y0 : wr.cell? ⟨w.heap.size + 1, k, none⟩ = some (.int .u32 (wsAt f k k).toNat) := hM.ws.cell (by omega)
      have y1 : wr.frozen? ⟨w.heap.size + 1, k, none⟩ = false := hM.ws.frozen k
      clear hcell hM
      go_wp2_with fail
      have q0 : IntKind.i64.wrap (4 * (k : Int)) = 4 * (k : Int) := IntWalk.i64_in _ (by omega)
      have q1 : IntKind.i64.wrap (4 * (k : Int) + 1) = 4 * (k : Int) + 1 := IntWalk.i64_in _ (by omega)
      have q2 : IntKind.i64.wrap (4 * (k : Int) + 2) = 4 * (k : Int) + 2 := IntWalk.i64_in _ (by omega)
      have q3 : IntKind.i64.wrap (4 * (k : Int) + 3) = 4 * (k : Int) + 3 := IntWalk.i64_in _ (by omega)
      have n0 : (4 * (k : Int)).toNat = 4 * k := by omega
      have n1 : (4 * (k : Int) + 1).toNat = 4 * k + 1 := by omega
      have n2 : (4 * (k : Int) + 2).toNat = 4 * k + 2 := by omega
      have n3 : (4 * (k : Int) + 3).toNat = 4 * k + 3 := by omega
      have p0 : (4 * (k : Int)) < 64 := by omega
      have p1 : (4 * (k : Int)) + 1 < 64 := by omega
      have p2 : (4 * (k : Int)) + 2 < 64 := by omega
      have p3 : (4 * (k : Int)) + 3 < 64 := by omega
      have r0 : 0 ≤ (4 * (k : Int)) := by omega
      have r1 : 0 ≤ (4 * (k : Int)) + 1 := by omega
      have r2 : 0 ≤ (4 * (k : Int)) + 2 := by omega
      have r3 : 0 ≤ (4 * (k : Int)) + 3 := by omega
      have x0' : wr.cell? ⟨b, off + (4 * k + 1), none⟩ = some (.int .u8 ((f (4 * k + 1)).toNat : Int)) := x1
      go_still_tail 34, (by kernel_rfl)
      change wpList _ _ _ _ _ (wr.drewN 1)
      go_wp2_with fail
      go_roundw
      case rel =>
        refine ⟨k + 1, by omega, by go_num, ?_⟩
        rw [be_word]
        have h := (HM.out.drew 1).set k (word f k)
        rw [wsAt_succ f k _ (sched_first f hlt)] at h
        exact h
      case measure => simp [intOf]; omega
    · obtain rfl : k = 16 := by omega
      obtain ⟨wo, rfl⟩ : ∃ wo : World, wo = wr := ⟨_, rfl⟩
      have HM := Lib.hid hM
      clear hM hlt
      rw [show ((16 : Nat) : Int) = 16 from rfl]
      go_wp2_with fail
      go_loopw [5] (fun i wr => ∃ k : Nat, 16 ≤ k ∧ k ≤ 64 ∧ i = .int .i64 k ∧ MS w wr (wsAt f k)) (fun i _ => (64 - intOf i).toNat)
      case atStart => exact ⟨16, by omega, by omega, rfl, HM.out⟩
      case round =>
        obtain ⟨k, hk1, hk, rfl, hM⟩ := hrel
        clear HM
        by_cases hlt : k < 64
        · skip
          obtain ⟨x, hx⟩ : ∃ x, wsAt f k (k - 15) = x := ⟨_, rfl⟩
          obtain ⟨y, hy⟩ : ∃ x, wsAt f k (k - 2) = x := ⟨_, rfl⟩
          obtain ⟨z, hz⟩ : ∃ x, wsAt f k (k - 7) = x := ⟨_, rfl⟩
          obtain ⟨u, hu⟩ : ∃ x, wsAt f k (k - 16) = x := ⟨_, rfl⟩
          have x0 : wr.cell? ⟨w.heap.size + 1, k - 15, none⟩ = some (.int .u32 x.toNat) := by rw [← hx]; exact hM.ws.cell (by omega)
          have x1 : wr.cell? ⟨w.heap.size + 1, k - 2, none⟩ = some (.int .u32 y.toNat) := by rw [← hy]; exact hM.ws.cell (by omega)
          have x2 : wr.cell? ⟨w.heap.size + 1, k - 7, none⟩ = some (.int .u32 z.toNat) := by rw [← hz]; exact hM.ws.cell (by omega)
          have x3 : wr.cell? ⟨w.heap.size + 1, k - 16, none⟩ = some (.int .u32 u.toNat) := by rw [← hu]; exact hM.ws.cell (by omega)
          have HS : Hid ((sched f (k + 1)).getD k 0 = ((sig1 y + z) + sig0 x) + u) := by show _ = _; rw [sched_later f hk1, hx, hy, hz, hu]
          have HM := Lib.hid hM
          have y0 : wr.cell? ⟨w.heap.size + 1, k, none⟩ = some (.int .u32 (wsAt f k k).toNat) := hM.ws.cell (by omega)
          have y1 : wr.frozen? ⟨w.heap.size + 1, k, none⟩ = false := hM.ws.frozen k
          clear hx hy hz hu hM
          have q0 : IntKind.i64.wrap ((k : Int) - 15) = (k : Int) - 15 := IntWalk.i64_in _ (by omega)
          have q1 : IntKind.i64.wrap ((k : Int) - 2) = (k : Int) - 2 := IntWalk.i64_in _ (by omega)
          have q2 : IntKind.i64.wrap ((k : Int) - 7) = (k : Int) - 7 := IntWalk.i64_in _ (by omega)
          have q3 : IntKind.i64.wrap ((k : Int) - 16) = (k : Int) - 16 := IntWalk.i64_in _ (by omega)
          have n0 : ((k : Int) - 15).toNat = k - 15 := by omega
          have n1 : ((k : Int) - 2).toNat = k - 2 := by omega
          have n2 : ((k : Int) - 7).toNat = k - 7 := by omega
          have n3 : ((k : Int) - 16).toNat = k - 16 := by omega
          have p0 : (k : Int) - 15 < 64 := by omega
          have p1 : (k : Int) - 2 < 64 := by omega
          have p2 : (k : Int) - 7 < 64 := by omega
          have p3 : (k : Int) - 16 < 64 := by omega
          have r0 : 0 ≤ (k : Int) - 15 := by omega
          have r1 : 0 ≤ (k : Int) - 2 := by omega
          have r2 : 0 ≤ (k : Int) - 7 := by omega
          have r3 : 0 ≤ (k : Int) - 16 := by omega
          have s2 : (7 : Int) ≤ k := by omega
          have s3 : (16 : Int) ≤ k := by omega
          go_wp2_with fail
          go_quiet (fail)
          go_wp2_with fail
          refine (right_lit _ _ (by omega) _).mono ?_; rintro e w' ⟨rfl, m1, rfl⟩
          go_wp2_with fail
          refine (right_lit _ _ (by omega) _).mono ?_; rintro e w' ⟨rfl, m2, rfl⟩
          go_wp2_with fail
          refine (right_lit _ _ (by omega) _).mono ?_; rintro e w' ⟨rfl, m3, rfl⟩
          go_wp2_with fail
          refine (right_lit _ _ (by omega) _).mono ?_; rintro e w' ⟨rfl, m4, rfl⟩
          go_wp2_with fail
          generalize hwz : wr.drewN _ = wz
          have z2 : wz.cell? ⟨w.heap.size + 1, k - 7, none⟩ = some (.int .u32 z.toNat) := by rw [← hwz]; exact x2
          have z3 : wz.cell? ⟨w.heap.size + 1, k - 16, none⟩ = some (.int .u32 u.toNat) := by rw [← hwz]; exact x3
          have z4 : wz.cell? ⟨w.heap.size + 1, k, none⟩ = some (.int .u32 (wsAt f k k).toNat) := by rw [← hwz]; exact y0
          have z5 : wz.frozen? ⟨w.heap.size + 1, k, none⟩ = false := by rw [← hwz]; exact y1
          have HZ : Hid (MS w wz (wsAt f k)) := by rw [← hwz]; exact HM.out.drew _
          clear hwz x0 x1 x2 x3 y0 y1
          go_still_tail 14, (by kernel_rfl)
          change wpList _ _ _ _ _ (wz.drewN 1)
          go_wp2_with fail
          have hval : (bits .xor .u32 (bits .xor .u32 ((rotr y 17).toNat : Int) ((rotr y 19).toNat : Int)) ((y.toNat : Int) / 1024) + (z.toNat : Int) + bits .xor .u32 (bits .xor .u32 ((rotr x 7).toNat : Int) ((rotr x 18).toNat : Int)) ((x.toNat : Int) / 8) + (u.toNat : Int)) % 4294967296 = ((((sig1 y + z) + sig0 x) + u).toNat : Int) := by
            have h1 := shrN y 10
            have h2 := shrN x 3
            simp only [show ((2 : Int) ^ 10) = 1024 from rfl, show ((2 : Int) ^ 3) = 8 from rfl] at h1 h2
            rw [h1, h2]
            simp only [xorN]
            exact addM4 _ _ _ _
          go_roundw
          case rel =>
            refine ⟨k + 1, by omega, by omega, by go_num, ?_⟩
            rw [hval, ← HS.out, ← wsAt_succ f k _ rfl]
            exact (HZ.out.drew _).set k _
          case measure => simp [intOf]; omega
        · obtain rfl : k = 64 := by omega
          obtain ⟨wp, rfl⟩ : ∃ wo : World, wo = wr := ⟨_, rfl⟩
          have HM := Lib.hid hM
          clear hM hlt
          rw [show ((64 : Nat) : Int) = 64 from rfl]
          obtain ⟨cs, hcs, hcp⟩ := rowIs.words HM.out.ws
          obtain ⟨cr, hcr, hcr2, _⟩ := HM.out.ret
          go_wp2_with (first | (refine wpList_load_row rfl 99 (.tmp 3) rfl (w.heap.size + 1) rfl _ cs (0, 0) _ hcp Try.underlying99 rfl (by rw [hcs.1]; kernel_rfl) ?_) | (refine wpList_store_rowTo rfl 99 (.tmp 2) (.tmp 92) rfl rfl w.heap.size cs rfl rfl _ _ hcr (by rw [hcs.1]; kernel_rfl) (by rw [hcr2, hcs.1]) hcs.one ?_))
          have hb := HM.out.bel
          refine bodyPost_ret (results_cell_row rfl _ _ w.heap.size _ cs (0, 0) _ rfl (setRow_same _ _ _ _ _ hcr) Try.underlying99 rfl (by rw [hcs.1]; kernel_rfl)) rfl ⟨⟨cs, hcs, rfl⟩, ?_⟩
          exact below_setRow hb (Nat.le_refl _) _
end Go.Proofs.Ytnhggaghidbniaa
