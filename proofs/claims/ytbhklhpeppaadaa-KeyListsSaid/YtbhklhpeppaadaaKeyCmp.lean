/- Compare, of the program and of the reference. -/
import Derived.Test.YtbhklhpeppaadaaKeyFm
import Derived.Test.YtbhklhpeppaadaaKeyOrd
import Derived.Lib.BytesEntry
namespace Go.Proofs.Ytbhklhpeppaadaa
open Go.RowKit
set_option linter.unusedVariables false
set_option linter.unusedSimpArgs false
open ShaW Sha

theorem bytesOf_kL (k : Nat → UInt8) : Lib.bytesOf ((List.range 32).map fun j => ((k j).toNat : Int)) = kL k := by
  unfold Lib.bytesOf kL kF
  rw [List.range_eq_range', List.map_map]
  refine List.map_congr_left (fun j _ => ?_)
  simp
theorem load_key (P : Program) (w : World) (g : Nat) (k : Nat → UInt8) (h : ∀ j, j < 32 → w.cell? ⟨g, j, none⟩ = some (.int .u8 ((k j).toNat : Int))) : (Extern.Bytes.loadBytes ⟨g, 0, none⟩ 32 .empty).run P w = .ok ⟨(kL k).toArray⟩ w := by
  obtain ⟨xs, hxs⟩ : ∃ xs, xs = (List.range 32).map fun j => ((k j).toNat : Int) := ⟨_, rfl⟩
  have hlen : xs.length = 32 := by rw [hxs]; simp
  have hbl : Lib.bytesOf xs = kL k := by rw [hxs]; exact bytesOf_kL k
  have hget : ∀ j x, xs[j]? = some x → w.cell? ((⟨g, 0, none⟩ : Addr).add j) = some (.int .u8 x) := fun j x hj => by
    have hj2 : j < 32 := by
      have := (List.getElem?_eq_some_iff.1 hj).1
      omega
    rw [add_flat, Nat.zero_add, h j hj2]
    rw [hxs] at hj
    simp [hj2] at hj
    rw [hj]
  clear hxs h
  have hl := Lib.run_loadBytesX (P := P) w xs ⟨g, 0, none⟩ .empty hget
  rw [hlen, hbl] at hl
  refine hl.trans ?_
  have e : (⟨ByteArray.empty.data ++ (kL k).toArray⟩ : ByteArray) = ⟨(kL k).toArray⟩ := by
    apply ByteArray.ext
    show (#[] : Array UInt8) ++ _ = _
    simp
  rw [e]
theorem run_cmp (P : Program) (w : World) (g h : Nat) (a b : Nat → UInt8) (ha : ∀ j, j < 32 → w.cell? ⟨g, j, none⟩ = some (.int .u8 ((a j).toNat : Int))) (hb : ∀ j, j < 32 → w.cell? ⟨h, j, none⟩ = some (.int .u8 ((b j).toNat : Int))) :
    (Extern.BytealgCompare.compare #[.slice (some ⟨g, 0, none⟩) 32 32, .slice (some ⟨h, 0, none⟩) 32 32]).run P w = .ok (.int .i64 (cmpK a b)) w := by
  change Sem.run P (do pure (goInt (Extern.BytealgCompare.cmp (← Extern.Bytes.bytesOf (.slice (some ⟨g, 0, none⟩) 32 32)) (← Extern.Bytes.bytesOf (.slice (some ⟨h, 0, none⟩) 32 32))))) w = _
  simp only [Extern.Bytes.bytesOf, Sem.run_bind, Sem.run_pure, load_key P w g a ha, load_key P w h b hb, Result.andThen]
  rw [Lib.cmp_eq]
  rfl

set_option maxRecDepth 100000 in
set_option maxHeartbeats 1000000 in
theorem bcompare_any (w : World) (g h : Nat) (a b : Nat → UInt8) (ha : ∀ j, j < 32 → w.cell? ⟨g, j, none⟩ = some (.int .u8 ((a j).toNat : Int))) (hb : ∀ j, j < 32 → w.cell? ⟨h, j, none⟩ = some (.int .u8 ((b j).toNat : Int))) :
    Calls Try.prog 23 #[.slice (some ⟨g, 0, none⟩) 32 32, .slice (some ⟨h, 0, none⟩) 32 32] w fun e w' => e = .returned (.int .i64 (cmpK a b)) ∧ w = w' := by
  have HR := Lib.hid (run_cmp Try.prog w g h a b ha hb)
  clear ha hb
  go_enter Try.func23, Try.ntmps23
  go_wp2
  rw [run_callFunc_extern Try.func36 (by kernel_rfl) (by kernel_rfl) (by kernel_rfl) (e := Extern.BytealgCompare.compare) (by kernel_rfl)]
  rw [HR.out]
  simp only [Result.andThen]
  rw [Oper.upon_value]
  go_wp2
  go_ret
  exact ⟨rfl, rfl⟩

theorem blk_cells {w : World} {g : Nat} {k : Nat → UInt8} (h : Blk w g 25 (bytesOf 32 k).toArray) : ∀ j, j < 32 → w.cell? ⟨g, j, none⟩ = some (.int .u8 ((k j).toNat : Int)) := fun j hj => by
  rw [h.cell]; exact List.getElem?_toArray.trans (bytesOf_get _ hj)

set_option maxRecDepth 100000 in
set_option maxHeartbeats 1000000 in
theorem kcompare_any (w : World) (a b : Nat → UInt8) :
    Calls Try.prog 10 #[keyV a, keyV b] w fun e w' => e = .returned (.int .i64 (cmpK a b)) ∧ Below w.heap.size w w' := by
  obtain ⟨ca, hca⟩ : ∃ ca, (bytesOf 32 a).toArray = ca := ⟨_, rfl⟩
  obtain ⟨cb, hcb⟩ : ∃ cb, (bytesOf 32 b).toArray = cb := ⟨_, rfl⟩
  show Calls _ _ #[.agg (bytesOf 32 a).toArray, .agg (bytesOf 32 b).toArray] _ _
  rw [hca, hcb]
  have HCA := Lib.hid hca
  have HCB := Lib.hid hcb
  clear hca hcb
  go_enter Try.func10, Try.ntmps10
  go_wp2_with fail
  generalize hwa : World.alloc (World.alloc w _) _ = wa
  have hb0 : Below w.heap.size w wa := by rw [← hwa]; exact ((Below.refl _ _).alloc (Nat.le_refl _) _).alloc (by simp) _
  have hga : Blk wa w.heap.size 25 (bytesOf 32 a).toArray := by rw [← hwa, HCA.out]; exact (Blk.new w _ ca).alloc _
  have hgb : Blk wa (w.heap.size + 1) 25 (bytesOf 32 b).toArray := by rw [← hwa, HCB.out]; exact heap_alloc_at _ _ _ (by simp)
  have HB0 := Lib.hid hb0
  have HX : Hid (∀ n, Calls Try.prog 23 #[.slice (some ⟨w.heap.size, 0, none⟩) 32 32, .slice (some ⟨w.heap.size + 1, 0, none⟩) 32 32] (wa.drewN n) fun e w' => e = .returned (.int .i64 (cmpK a b)) ∧ w' = wa.drewN n) := fun n => (bcompare_any (wa.drewN n) _ _ a b (blk_cells hga) (blk_cells hgb)).mono fun _ _ h => ⟨h.1, h.2.symm⟩
  clear hwa hb0 hga hgb
  go_quiet ((go_at_call 23; exact Calls.quiet_of_same (HX.out _)))
  go_wp2_with fail
  go_ret
  exact ⟨rfl, below_drewN HB0.out _⟩

set_option maxRecDepth 100000 in
set_option maxHeartbeats 1000000 in
theorem rcompare_any (w : World) (a b : Nat → UInt8) :
    Calls Try.prog 11 #[keyV a, keyV b] w fun e w' => e = .returned (.int .i64 (cmpK a b)) ∧ Below w.heap.size w w' := by
  obtain ⟨ca, hca⟩ : ∃ ca, (bytesOf 32 a).toArray = ca := ⟨_, rfl⟩
  obtain ⟨cb, hcb⟩ : ∃ cb, (bytesOf 32 b).toArray = cb := ⟨_, rfl⟩
  show Calls _ _ #[.agg (bytesOf 32 a).toArray, .agg (bytesOf 32 b).toArray] _ _
  rw [hca, hcb]
  have HCA := Lib.hid hca
  have HCB := Lib.hid hcb
  clear hca hcb
  go_enter Try.func11, Try.ntmps11
  go_wp2_with fail
  generalize hwa : World.alloc (World.alloc w _) _ = wa
  have hb0 : Below w.heap.size w wa := by rw [← hwa]; exact ((Below.refl _ _).alloc (Nat.le_refl _) _).alloc (by simp) _
  have hga : Blk wa w.heap.size 25 (bytesOf 32 a).toArray := by rw [← hwa, HCA.out]; exact (Blk.new w _ ca).alloc _
  have hgb : Blk wa (w.heap.size + 1) 25 (bytesOf 32 b).toArray := by rw [← hwa, HCB.out]; exact heap_alloc_at _ _ _ (by simp)
  have HB0 := Lib.hid hb0
  have HGA := Lib.hid (blk_cells hga)
  have HGB := Lib.hid (blk_cells hgb)
  clear hwa hb0 hga hgb
  go_loopw [6] (fun i wr => ∃ n : Nat, n ≤ 32 ∧ i = .int .i64 (n : Int) ∧ (∀ j, j < n → a j = b j) ∧ ∃ q, wr = wa.drewN q) (fun i _ => 32 - (intOf i).toNat)
  case atStart => exact ⟨0, by omega, rfl, fun j hj => by omega, 0, rfl⟩
  case round =>
    obtain ⟨n, hn, rfl, hab, q, rfl⟩ := hrel
    have HAB := Lib.hid hab
    clear hab
    rcases Nat.lt_or_ge n 32 with hlt | hge
    · have hlt' : (n : Int) < 32 := by omega
      have hn0 : (0 : Int) ≤ n := by omega
      obtain ⟨x, hx⟩ : ∃ x, (a n).toNat = x := ⟨_, rfl⟩
      obtain ⟨y, hy⟩ : ∃ y, (b n).toNat = y := ⟨_, rfl⟩
      have c1 := HGA.out n hlt
      have c2 := HGB.out n hlt
      rw [hx] at c1
      rw [hy] at c2
      have HX := Lib.hid hx
      have HY := Lib.hid hy
      clear hx hy
      rcases Nat.lt_trichotomy x y with h | h | h
      · have h1 : decide ((x : Int) < y) = true := by simp; omega
        have hf := cmp_less a b n hlt HAB.out (by rw [HX.out, HY.out]; exact h)
        have HF := Lib.hid hf
        clear hf
        go_wp2_with fail
        go_quiet (fail)
        go_wp2_with fail
        go_ret
        refine ⟨?_, ?_⟩
        · show Ending.returned (.int .i64 (-1)) = _
          rw [HF.out]
        · repeat (first | (with_reducible exact HB0.out) | (with_reducible refine below_drewN ?_ _))
      · subst h
        have h1 : decide ((x : Int) < x) = false := by simp
        have hf : a n = b n := UInt8.toNat_inj.1 (by rw [HX.out, HY.out])
        have HF := Lib.hid hf
        clear hf
        go_wp2_with fail
        go_quiet (fail)
        go_wp2_with fail
        go_quiet (fail)
        go_wp2_with fail
        go_roundw
        case rel =>
          refine ⟨n + 1, by omega, by go_num, fun j hj => ?_, _, rfl⟩
          rcases Nat.lt_or_ge j n with h | h
          · exact HAB.out j h
          · obtain rfl : j = n := by omega
            exact HF.out
        case measure => simp [intOf]; omega
      · have h1 : decide ((x : Int) < y) = false := by simp; omega
        have h2 : decide ((y : Int) < x) = true := by simp; omega
        have hf := cmp_more a b n hlt HAB.out (by rw [HX.out, HY.out]; exact h)
        have HF := Lib.hid hf
        clear hf
        go_wp2_with fail
        go_quiet (fail)
        go_wp2_with fail
        go_quiet (fail)
        go_wp2_with fail
        go_ret
        refine ⟨?_, ?_⟩
        · show Ending.returned (.int .i64 1) = _
          rw [HF.out]
        · repeat (first | (with_reducible exact HB0.out) | (with_reducible refine below_drewN ?_ _))
    · have hge' : ¬ (n : Int) < 32 := by omega
      obtain rfl : n = 32 := by omega
      have hf := cmp_same a b HAB.out
      have HF := Lib.hid hf
      clear hf
      go_wp2_with fail
      go_ret
      refine ⟨?_, ?_⟩
      · show Ending.returned (.int .i64 0) = _
        rw [HF.out]
      · repeat (first | (with_reducible exact HB0.out) | (with_reducible refine below_drewN ?_ _))
end Go.Proofs.Ytbhklhpeppaadaa
