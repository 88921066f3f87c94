/- The example of the document. -/
import Derived.Test.YtpnbaoollmhkgaaShaW9
import Derived.Test.YtpnbaoollmhkgaaShaK
import Derived.Test.YtpnbaoollmhkgaaKeyEq
import Derived.Lib.SlBytesConst
namespace Go.Proofs.Ytpnbaoollmhkgaa
open Go.RowKit
set_option linter.unusedVariables false
open ShaW Sha

theorem keyV_size (k : Nat → UInt8) : (bytesOf 32 k).toArray.size = 32 := by simp only [List.size_toArray]; exact bytesOf_length _ _
theorem keyV_one (k : Nat → UInt8) : (bytesOf 32 k).toArray.all (·.oneCell') = true := all_one _ (bytesOf_one _ _)

theorem lit_cell (w : World) (C : Array Value) (e : TypeId) (fr : Nat × Nat) (i : Nat) : (w.alloc (.cells C e fr)).cell? ⟨w.heap.size, i, none⟩ = C[i]? := cell_of_row _ _ _ _ _ _ (heap_alloc_new w _)
theorem only_below {w w1 w2 : World} {D : Nat} (h : Below w.heap.size w w1) (hg : w1.grownBy w2 (some D)) (hD : w.heap.size ≤ D) : Below w.heap.size w w2 :=
  h.trans ⟨hg.os, hg.tape, hg.output, hg.size, fun i hi => hg.block i (by have := h.size; omega) (by simp; omega)⟩

theorem lit4_cells (X : World) (n d : Nat) (hn : n = X.heap.size) (a0 a1 a2 a3 : UInt8) : ∀ j, j < 4 → ((X.alloc (.cells #[.int .u8 (a0.toNat : Int), .int .u8 (a1.toNat : Int), .int .u8 (a2.toNat : Int), .int .u8 (a3.toNat : Int)] 5)).drewN d).cell? ⟨n, 0 + j, none⟩ = some (.int .u8 (((fun j => if j = 0 then a0 else if j = 1 then a1 else if j = 2 then a2 else a3 : Nat → UInt8) j).toNat : Int)) := by
  intro j hj
  subst hn
  have : j = 0 ∨ j = 1 ∨ j = 2 ∨ j = 3 := by omega
  rcases this with rfl | rfl | rfl | rfl <;> exact lit_cell X _ _ _ _
theorem same_litd (X : World) (g n : Nat) (hn : n = X.heap.size) (k : Nat → UInt8) (a0 a1 a2 a3 : UInt8) (hk : ∀ j, j < 4 → X.cell? ⟨g, 0 + j, none⟩ = some (.int .u8 ((k j).toNat : Int))) (hg : g < X.heap.size)
    (h : k 0 = a0 ∧ k 1 = a1 ∧ k 2 = a2 ∧ k 3 = a3) (lit : Array Value) (hlit : lit = #[.int .u8 (a0.toNat : Int), .int .u8 (a1.toNat : Int), .int .u8 (a2.toNat : Int), .int .u8 (a3.toNat : Int)]) (d : Nat) :
    Calls Try.prog 14 #[.slice (some ⟨g, 0, none⟩) 4 32, .slice (some ⟨n, 0, none⟩) 4 4] ((X.alloc (.cells lit 5)).drewN d) fun e w' => e = .returned (.bool true) ∧ (X.alloc (.cells lit 5)).drewN d = w' := by
  subst hlit
  refine same_any _ g 0 32 n 0 4 4 k _ (fun j hj => ?_) (lit4_cells X n d hn a0 a1 a2 a3) ?_
  · exact (World.cell?_alloc_lt _ _ _ hg).trans (hk j hj)
  · intro j hj
    have : j = 0 ∨ j = 1 ∨ j = 2 ∨ j = 3 := by omega
    rcases this with rfl | rfl | rfl | rfl
    · exact h.1
    · exact h.2.1
    · exact h.2.2.1
    · exact h.2.2.2
theorem same_lit (X : World) (g n : Nat) (hn : n = X.heap.size) (k : Nat → UInt8) (a0 a1 a2 a3 : UInt8) (hk : ∀ j, j < 4 → X.cell? ⟨g, 0 + j, none⟩ = some (.int .u8 ((k j).toNat : Int))) (hg : g < X.heap.size)
    (h : k 0 = a0 ∧ k 1 = a1 ∧ k 2 = a2 ∧ k 3 = a3) (lit : Array Value) (hlit : lit = #[.int .u8 (a0.toNat : Int), .int .u8 (a1.toNat : Int), .int .u8 (a2.toNat : Int), .int .u8 (a3.toNat : Int)]) :
    Calls Try.prog 14 #[.slice (some ⟨g, 0, none⟩) 4 32, .slice (some ⟨n, 0, none⟩) 4 4] (X.alloc (.cells lit 5)) fun e w' => e = .returned (.bool true) ∧ (X.alloc (.cells lit 5)) = w' :=
  same_litd X g n hn k a0 a1 a2 a3 hk hg h lit hlit 0

/-- v points to a key's row -/
def KeyAt (W : World) (v : Value) : Prop := ∃ g, ∃ cs : Array Value, v = .pointer (some ⟨g, 0, none⟩) ∧ W.heap[g]? = some (.cells cs 26 (0, 0)) ∧ cs.size = 32
/-- the row to which v points -/
def rowAt (W : World) (v : Value) : Value :=
  match v with
  | .pointer (some ⟨g, _, _⟩) => match W.heap[g]? with | some (.cells cs _ _) => .agg cs | _ => .agg #[]
  | _ => .agg #[]
theorem rowAt_blk {W : World} {g : Nat} {t : TypeId} {cs : Array Value} (h : Blk W g t cs) : rowAt W (.pointer (some ⟨g, 0, none⟩)) = .agg cs := by
  show (match W.heap[g]? with | some (.cells cs _ _) => Value.agg cs | _ => .agg #[]) = _
  rw [show W.heap[g]? = _ from h]
theorem wp_load_key (dst : Option Tmp) (x : Operand) (ty : TypeId) (pos : String) (after : Array Edge) (guard : Option (Nat × Bool)) (a : Act) (W : World) (K : Act → World → Prop) (Q : Exit → Act → World → Prop) (h : KeyAt W (a.eval x)) :
    Oper.wp Try.prog { dst := dst, op := .load 26 x, type := ty, pos := pos, after := after, guard := guard } a W K Q = K (a.put dst (rowAt W (a.eval x))) W := by
  obtain ⟨g, cs, hv, h1, h2⟩ := h
  have e : rowAt W (a.eval x) = .agg cs := by rw [hv]; exact rowAt_blk h1
  rw [e]
  unfold Oper.wp execOp
  simp only [hv, Instr.loadAt, Instr.sureAddr, Sem.run_bind, Sem.run_pure, Result.andThen_ok, run_loadVar_row W g 26 26 cs (0, 0) _ h1 Try.underlying26 rfl (by rw [h2]; kernel_rfl)]
  rfl
attribute [local go_sem ↓] wp_load_key

set_option maxRecDepth 100000 in
set_option maxHeartbeats 2000000 in
theorem known_any (w : World) : Calls Try.prog 7 #[] w fun e w' => e = .returned (.bool true) ∧ Below w.heap.size w w' := by
  have kc := fun (w : World) (C : Array Value) (n c : Nat) => Lib.run_convert_bytes_const (P := Try.prog) w 22 5 C n c Try.underlying22 Try.underlying5
  go_enter Try.func7, Try.ntmps7
  go_wp2_with fail
  refine (sum_any w none 0 0 (fun _ => 0) Reads.none_ (by omega)).mono ?_
  rintro e w1 ⟨rfl, hb1⟩
  obtain ⟨k1, hk1⟩ : ∃ k, sha 0 (fun _ => 0) = k := ⟨_, rfl⟩
  rw [hk1]
  have HK1 := Lib.hid hk1
  clear hk1
  have HB1 := Lib.hid hb1
  clear hb1
  go_wp2_with fail
  refine (sum_any _ (some ⟨w1.heap.size, 0, none⟩) 3 3 abc (Reads.flat (o := 0) (fun _ => ⟨rfl, by rw [World.size_alloc]; omega⟩) (fun j hj => ?_)) (by omega)).mono ?_
  · have : j = 0 ∨ j = 1 ∨ j = 2 := by omega
    rcases this with rfl | rfl | rfl <;> exact lit_cell _ _ _ _ _
  rintro e w2 ⟨rfl, hb2⟩
  obtain ⟨k2, hk2⟩ : ∃ k, sha 3 abc = k := ⟨_, rfl⟩
  rw [hk2]
  have hz1 := HB1.out.size
  have hb2' : Below w.heap.size w w2 := (HB1.out.alloc HB1.out.size _).trans (hb2.mono (by rw [World.size_alloc]; omega))
  have HK2 := Lib.hid hk2
  have HB2 := Lib.hid hb2'
  clear hk2 hb2 hb2' HB1 hz1
  go_wp2_with (first
    | (refine wpList_store_rowTo rfl 26 (.tmp 1) (.tmp 4) rfl rfl w2.heap.size (bytesOf 32 k1).toArray rfl rfl _ _ (by first | exact heap_alloc_new _ _ | exact (Below.heap_alloc _ _ _ (by simp)).trans (heap_alloc_new _ _)) (by rw [keyV_size]; kernel_rfl) (by rw [keyV_size]; kernel_rfl) (keyV_one _) ?_)
    | (refine wpList_store_rowTo rfl 26 (.tmp 2) (.tmp 7) rfl rfl (w2.heap.size + 1) (bytesOf 32 k2).toArray rfl rfl _ _ ((setRow_other _ _ _ _ (by omega)).trans (heap_alloc_at _ _ _ (by simp))) (by rw [keyV_size]; kernel_rfl) (by rw [keyV_size]; kernel_rfl) (keyV_one _) ?_))
  generalize hwa : World.setRow (World.setRow _ _ _) _ _ = wa
  have hz2 := HB2.out.size
  have hsa : wa.heap.size = w2.heap.size + 1 + 1 := by rw [← hwa]; simp
  have hba : Below w.heap.size w wa := by
    rw [← hwa]
    exact below_setRow (below_setRow ((HB2.out.alloc HB2.out.size _).alloc (by rw [World.size_alloc]; omega) _) (by omega) _) (by omega) _
  have hr1 : Blk wa w2.heap.size 26 (bytesOf 32 k1).toArray := by
    rw [← hwa]
    refine (setRow_other _ _ _ _ (by omega)).trans (setRow_same _ _ _ _ _ ((Below.heap_alloc _ _ _ (by simp)).trans (heap_alloc_new _ _)))
  have hr2 : Blk wa (w2.heap.size + 1) 26 (bytesOf 32 k2).toArray := by
    rw [← hwa]
    exact setRow_same _ _ _ _ _ ((setRow_other _ _ _ _ (by omega)).trans (heap_alloc_at _ _ _ (by simp)))
  clear hwa
  refine (new_any wa abc).mono ?_
  rintro e w3 ⟨rfl, hb3, hd3⟩
  have HB3 := Lib.hid (hba.trans (hb3.mono (by omega)))
  have HR1 := Lib.hid (hr1.below hb3 (by omega))
  have HR2 := Lib.hid (hr2.below hb3 (by omega))
  rw [hsa] at hd3
  have HD3 := Lib.hid hd3
  have hz3 := hb3.size
  clear hba hr1 hr2 hb3 hd3
  go_wp2_with fail
  refine (write_any _ _ _ 0 1 abc abc (some ⟨w3.heap.size, 0, none⟩) 1 (HD3.out.below ((Below.refl _ _).alloc (Nat.le_refl _) _)) (Reads.flat (o := 0) (fun _ => ⟨rfl, by rw [World.size_alloc]; omega⟩) (fun j hj => by
    obtain rfl : j = 0 := by omega
    exact lit_cell _ _ _ _ _)) (by omega) (by rw [World.size_alloc]; omega)).mono ?_
  rintro e w4 ⟨rfl, hg4, hd4⟩
  have hz4 := hg4.size
  rw [World.size_alloc] at hz4
  have hb4 := only_below (HB3.out.alloc HB3.out.size _) hg4 (by omega)
  have hr14 := (HR1.out.alloc _).grown hg4 (by first | (simp; done) | (simp; omega))
  have hr24 := (HR2.out.alloc _).grown hg4 (by first | (simp; done) | (simp; omega))
  have HB4 := Lib.hid hb4
  have HR14 := Lib.hid hr14
  have HR24 := Lib.hid hr24
  have HD4 := Lib.hid hd4
  clear hg4 hb4 hr14 hr24 hd4 HB3 HR1 HR2 HD3
  go_wp2_with fail
  refine (write_any _ _ _ _ 2 _ (fun j => abc (1 + j)) (some ⟨w4.heap.size, 0, none⟩) 2 (HD4.out.below ((Below.refl _ _).alloc (Nat.le_refl _) _)) (Reads.flat (o := 0) (fun _ => ⟨rfl, by rw [World.size_alloc]; omega⟩) (fun j hj => by
    have : j = 0 ∨ j = 1 := by omega
    rcases this with rfl | rfl <;> exact lit_cell _ _ _ _ _)) (by omega) (by rw [World.size_alloc]; omega)).mono ?_
  rintro e w5 ⟨rfl, hg5, hd5⟩
  have hz5 := hg5.size
  rw [World.size_alloc] at hz5
  have hb5 := only_below (HB4.out.alloc HB4.out.size _) hg5 (by omega)
  have hr15 := (HR14.out.alloc _).grown hg5 (by first | (simp; done) | (simp; omega))
  have hr25 := (HR24.out.alloc _).grown hg5 (by first | (simp; done) | (simp; omega))
  have HB5 := Lib.hid hb5
  have HR15 := Lib.hid hr15
  have HR25 := Lib.hid hr25
  have HD5 := Lib.hid hd5
  clear hg5 hb5 hr15 hr25 hd5 HB4 HR14 HR24 HD4
  go_wp2_with fail
  have hrow1 : ∀ W, Below w5.heap.size w5 W → ∀ j, j < 4 → W.cell? ⟨w2.heap.size, 0 + j, none⟩ = some (.int .u8 ((k1 j).toNat : Int)) := by
    intro W hW j hj
    rw [Nat.zero_add, (HR15.out.below hW HR15.out.lt).cell]
    exact List.getElem?_toArray.trans (bytesOf_get k1 (by omega))
  have hrow2 : ∀ W, Below w5.heap.size w5 W → ∀ j, j < 4 → W.cell? ⟨w2.heap.size + 1, 0 + j, none⟩ = some (.int .u8 ((k2 j).toNat : Int)) := by
    intro W hW j hj
    rw [Nat.zero_add, (HR25.out.below hW HR25.out.lt).cell]
    exact List.getElem?_toArray.trans (bytesOf_get k2 (by omega))
  have HE1 : Hid (k1 0 = 227 ∧ k1 1 = 176 ∧ k1 2 = 196 ∧ k1 3 = 66) := by
    show _ ∧ _
    rw [← HK1.out]
    exact ⟨shaE_0, shaE_1, shaE_2, shaE_3⟩
  have HE2 : Hid (k2 0 = 186 ∧ k2 1 = 120 ∧ k2 2 = 22 ∧ k2 3 = 191) := by
    show _ ∧ _
    rw [← HK2.out]
    exact ⟨shaA_0, shaA_1, shaA_2, shaA_3⟩
  have HW1 := Lib.hid hrow1
  have HW2 := Lib.hid hrow2
  clear hrow1 hrow2
  have hload : ∀ W, Below w5.heap.size w5 W → KeyAt W (.pointer (some ⟨w2.heap.size + 1, 0, none⟩)) ∧ rowAt W (.pointer (some ⟨w2.heap.size + 1, 0, none⟩)) = keyV k2 := by
    intro W hW
    have h := (HR25.out.below hW HR25.out.lt)
    exact ⟨⟨_, _, rfl, h, keyV_size _⟩, rowAt_blk h⟩
  have HLOAD := Lib.hid hload
  have hx0 : ∀ o1 o2, KeyAt (((w5.alloc o1).drewN 1).alloc o2) (.pointer (some ⟨w2.heap.size + 1, 0, none⟩)) := fun o1 o2 => (hload _ ((below_drewN ((Below.refl _ _).alloc (Nat.le_refl _) _) _).alloc (by simp) _)).1
  have hx1 : ∀ o1 o2, rowAt (((w5.alloc o1).drewN 1).alloc o2) (.pointer (some ⟨w2.heap.size + 1, 0, none⟩)) = keyV k2 := fun o1 o2 => (hload _ ((below_drewN ((Below.refl _ _).alloc (Nat.le_refl _) _) _).alloc (by simp) _)).2
  have hsum : ∀ W, Below w5.heap.size w5 W → Calls Try.prog 12 #[.pointer (some ⟨w2.heap.size + 1 + 1 + 1, 0, none⟩)] W fun e w' => e = .returned (keyV k2) ∧ Below W.heap.size W w' := by
    intro W hW
    have h := dsum_any W _ _ _ _ (HD5.out.below hW) (by omega)
    rw [show sha (0 + 1 + 2) (glue (0 + 1) (glue 0 abc abc) (fun j => abc (1 + j))) = k2 from by
      rw [← HK2.out]
      refine sha_congr (fun j hj => ?_)
      have : j = 0 ∨ j = 1 ∨ j = 2 := by omega
      rcases this with rfl | rfl | rfl <;> rfl] at h
    exact h
  have HSUM := Lib.hid hsum
  clear hload hsum
  have heq2 : ∀ W, (Op.equalIn 10000 26 (keyV k2) (keyV k2)).run Try.prog W = .ok true W := fun W => by
    obtain ⟨i, hi, hu⟩ := key_underlying
    rw [run_equalIn_array W 9999 _ _ hu hi, cells_u8, eqItems_bytes W 9998 32 k2 k2 (List.range 32) (fun j hj => List.mem_range.mp hj)]
    congr 1
    exact keyEq_refl k2
  have hgd : Try.prog.eqGuardType Try.prog.depth 26 = false := by kernel_rfl
  go_region_law (first
    | (go_simp; go_at_call 14; refine (same_litd w5 w2.heap.size w5.heap.size rfl k1 227 176 196 66 (HW1.out _ (Below.refl _ _)) HR15.out.lt HE1.out _ rfl 1).mono ?_; rintro e w' ⟨rfl, rfl⟩)
    | (go_simp; go_at_call 14; refine (same_lit _ (w2.heap.size + 1) (w5.heap.size + 1) (by simp) k2 186 120 22 191 (HW2.out _ (below_drewN ((Below.refl _ _).alloc (Nat.le_refl _) _) _)) (by have := HR25.out.lt; simp; omega) HE2.out _ rfl).mono ?_; rintro e w' ⟨rfl, rfl⟩)
    | (go_simp; go_at_call 12; refine (HSUM.out _ ((below_drewN ((Below.refl _ _).alloc (Nat.le_refl _) _) _).alloc (by simp) _)).mono ?_; rintro e w6 ⟨rfl, hb6⟩; have hbz := ((below_drewN ((Below.refl w5.heap.size w5).alloc (Nat.le_refl _) _) 1).alloc (by simp) _).trans (hb6.mono (by simp; omega)); obtain ⟨hl0, hl1⟩ := HLOAD.out w6 hbz; have hd6 := HD5.out.below hbz)
    | (go_simp; go_at_call 13; refine (len_any _ _ _ _ _ hd6).mono ?_; rintro e w' ⟨rfl, rfl⟩))
  all_goals
    go_wp2_with fail
    go_ret
    first
      | exact ⟨rfl, HB5.out.trans (hbz.mono HB5.out.size)⟩
      | exact ⟨rfl, below_drewN (HB5.out.trans (hbz.mono HB5.out.size)) _⟩
end Go.Proofs.Ytpnbaoollmhkgaa
