/- The statements' own leaves and many; the example of chapter 6. -/
import Derived.Test.YtlijjacnfdnhkaaMerW4
namespace Go.Proofs.Ytlijjacnfdnhkaa
open Go.RowKit
set_option linter.unusedVariables false
open ShaW Sha

/-- v is a list, of the call's own, of slices that were there before or are the call's own -/
def ListL (w wr : World) (v : Value) (q : Nat) (F : Nat → Nat → UInt8) : Prop :=
  ∃ xs, wr.ownsRow w.heap.size 25 1 v q xs ∧ ∀ r, r < q → ∃ A c, xs[r]? = some (.slice A 1 c) ∧ (Reads w w.heap.size 1 A 1 (bytesOf 1 (F r)) ∨ wr.ownsRow w.heap.size 5 1 (.slice A 1 c) 1 (bytesOf 1 (F r)))
theorem ListL.rows {w wr : World} {v : Value} {q : Nat} {F : Nat → Nat → UInt8} (h : ListL w wr v q F) (hb : Below w.heap.size w wr) : ∃ A c, v = .slice A q c ∧ RowsAt wr A q c (fun _ => 1) F := by
  obtain ⟨xs, h1, h2⟩ := h
  rcases h1.2 with ⟨rfl, rfl⟩ | ⟨g, cap, cur, rfl, _, hg, hnc, hcm, _⟩
  · exact ⟨none, 0, rfl, Nat.le_refl _, Nat.zero_le _, 0, 0, fun h => absurd h (Nat.lt_irrefl _), fun r hr => absurd hr (Nat.not_lt_zero _)⟩
  · refine ⟨_, _, rfl, hnc, hcm, g, 0, fun _ => rfl, fun r hr => ?_⟩
    obtain ⟨A', c', e, hu⟩ := h2 r hr
    have hcell := h1.cells (g := g) rfl r _ e
    rw [add_flat] at hcell
    refine ⟨A', c', hcell, ?_, by show (1 : Nat) ≤ 1073741823; omega⟩
    rcases hu with hu | hu
    · exact (hu.below hb).more hb.size
    · exact Reads.of_own hu
theorem ListL.snoc {w wr wr' : World} {v v' : Value} {q : Nat} {F : Nat → Nat → UInt8} {A : Option Addr} {c : Nat} {xs : List Value}
    (h1 : wr.ownsRow w.heap.size 25 1 v q xs) (h2 : ∀ r, r < q → ∃ A c, xs[r]? = some (.slice A 1 c) ∧ (Reads w w.heap.size 1 A 1 (bytesOf 1 (F r)) ∨ wr.ownsRow w.heap.size 5 1 (.slice A 1 c) 1 (bytesOf 1 (F r))))
    (hu : Reads w w.heap.size 1 A 1 (bytesOf 1 (F q)) ∨ wr.ownsRow w.heap.size 5 1 (.slice A 1 c) 1 (bytesOf 1 (F q))) (hv : wr'.ownsRow w.heap.size 25 1 v' (q + 1) (xs ++ [.slice A 1 c])) (hg : wr.grownBy wr' v.ownBlock) : ListL w wr' v' (q + 1) F := by
  have hlen : xs.length = q := by have := h1.1; omega
  refine ⟨_, hv, fun r hr => ?_⟩
  by_cases h : r < q
  · obtain ⟨A', c', e, hy⟩ := h2 r h
    refine ⟨A', c', by rw [List.getElem?_append_left (by omega)]; exact e, ?_⟩
    rcases hy with hy | hy
    · exact .inl hy
    · exact .inr (owns_apart hy h1 (by decide) hg)
  · obtain rfl : r = q := by omega
    refine ⟨A, c, by rw [List.getElem?_append_right (by omega), hlen, Nat.sub_self]; rfl, ?_⟩
    rcases hu with hu | hu
    · exact .inl hu
    · exact .inr (owns_apart hu h1 (by decide) hg)
theorem one_slc (A : Option Addr) (n c : Nat) : ∀ u ∈ [Value.slice A n c], u.oneCell' = true := by
  intro u hu
  rw [List.mem_singleton] at hu
  subst hu
  rfl
theorem one_sl (w : World) (A : Option Addr) (n c g : Nat) (hg : g = w.heap.size) : Reads (w.alloc (.cells #[.slice A n c] 25)) (w.alloc (.cells #[.slice A n c] 25)).heap.size 1 (some ⟨g, 0, none⟩) 1 [.slice A n c] := by
  subst hg
  refine ⟨rfl, fun _ => ⟨⟨w.heap.size, 0, none⟩, rfl, by rw [World.size_alloc]; exact Nat.lt_succ_self _, fun j u hu => ?_⟩⟩
  rcases j with _ | j
  · injection hu with hu
    subst hu
    rw [add_flat]
    exact lit_cell _ _ _ _ _
  · simp at hu
/-- the bytes of the leaf r -/
def leafF (n : Nat) (f : Nat → UInt8) (r : Nat) : Nat → UInt8 := fun _ => if r < n then f r else UInt8.ofNat r
theorem sl_info : (Try.prog.info? 25).map (fun i => (i.zero, i.size, i.bytes)) = some (some (.slice none 0 0), 1, 24) := by kernel_rfl

set_option maxRecDepth 100000 in
set_option maxHeartbeats 1000000 in
theorem leaves_any (w : World) (A : Option Addr) (n c b o : Nat) (f : Nat → UInt8) (x : Nat) (hx : x < 256) (hnc : n ≤ c) (hcm : c ≤ 9223372036854775807) (hA : 0 < n → A = some ⟨b, o, none⟩) (hc : ∀ j, j < n → w.cell? ⟨b, o + j, none⟩ = some (.int .u8 ((f j).toNat : Int))) :
    Calls Try.prog 9 #[.slice A n c, .int .u8 (x : Int)] w fun e w' => ∃ v, e = .returned v ∧ ListL w w' v (x % 20) (leafF n f) ∧ Below w.heap.size w w' := by
  obtain ⟨i0, hi0, hz0, hz1, hz2⟩ := info_parts sl_info
  obtain ⟨m, hm⟩ : ∃ m, x % 20 = m := ⟨_, rfl⟩
  rw [hm]
  have hmi : (x : Int) % 20 = (m : Int) := by omega
  have hml : m < 20 := by omega
  have HC := Lib.hid hc
  have HA := Lib.hid hA
  clear hc hA hm
  go_enter Try.func9, Try.ntmps9
  go_wp2_with fail
  go_loopw [5, 6] (fun v i wr => ∃ k : Nat, k ≤ m ∧ i = .int .i64 (k : Int) ∧ ListL w wr v k (leafF n f) ∧ Below w.heap.size w wr) (fun _ i _ => m - (intOf i).toNat)
  case atStart => exact ⟨0, by omega, rfl, ⟨[], World.ownsRow_nil _ _ _ _, fun r hr => absurd hr (by omega)⟩, Below.refl _ _⟩
  case round =>
    obtain ⟨k, hk, rfl, hl, hb⟩ := hrel
    obtain ⟨xs, hx1, hx2⟩ := hl
    obtain ⟨Av, cv, rfl⟩ := own_form hx1
    have hz := hb.size
    have HB := Lib.hid hb
    by_cases hlt : k < m
    · have hki : (k : Int) < (m : Int) := by omega
      have hk256 : IntKind.u8.wrap (k : Int) = (k : Int) := by rw [IntKind.wrap_u8]; omega
      obtain ⟨wb, hwb⟩ : ∃ wb, wr.alloc (.cells #[.int .u8 (k : Int)] 5) = wb := ⟨_, rfl⟩
      have hbb : Below wr.heap.size wr wb := by rw [← hwb]; exact (Below.refl _ _).alloc (Nat.le_refl _) _
      have hone : wb.ownsRow w.heap.size 5 1 (.slice (some ⟨wr.heap.size, 0, none⟩) 1 1) 1 (bytesOf 1 (fun _ => UInt8.ofNat k)) := by
        rw [← hwb]
        have e : bytesOf 1 (fun _ => UInt8.ofNat k) = [.int .u8 (k : Int)] := by
          show [Value.int .u8 (((UInt8.ofNat k).toNat : Nat) : Int)] = _
          rw [UInt8.toNat_ofNat', Nat.mod_eq_of_lt (by omega)]
        rw [e]
        exact World.ownsRow_lit (base := w.heap.size) (e := 5) (size := 1) wr #[.int .u8 (k : Int)] 1 hz (by unfold maxLen; omega) rfl
      have HWB := Lib.hid hwb
      have HX1 := Lib.hid (owns_below hx1 hbb)
      have HX2 : Hid (∀ r, r < k → ∃ A c, xs[r]? = some (.slice A 1 c) ∧ (Reads w w.heap.size 1 A 1 (bytesOf 1 (leafF n f r)) ∨ wb.ownsRow w.heap.size 5 1 (.slice A 1 c) 1 (bytesOf 1 (leafF n f r)))) := fun r hr => by
        obtain ⟨A', c', e, hu⟩ := hx2 r hr
        exact ⟨A', c', e, hu.imp id (fun h => owns_below h hbb)⟩
      have HONE := Lib.hid hone
      have HBB := Lib.hid (hb.trans (hbb.mono hz))
      clear hwb hbb hone hx1 hx2 hb
      by_cases hkn : k < n
      · have hkni : (k : Int) < (n : Int) := by omega
        obtain rfl := HA.out (by omega)
        have q1 : (k : Int) + 1 ≤ c := by omega
        have q2 : ¬ c = k := by omega
        have q3 : k + 1 - k = 1 := by omega
        have hzb := HBB.out.size
        have HX3 := Lib.hid (owns_below HX1.out ((Below.refl wb.heap.size wb).alloc (Nat.le_refl _) (.cells #[.slice (some ⟨b, o + k, none⟩) 1 (c - k)] 25)))
        have HN := Lib.hid (one_sl wb (some ⟨b, o + k, none⟩) 1 ((c - k)) (wr.heap.size + 1) (by rw [← HWB.out, World.size_alloc]))
        have HU : Hid (Reads w w.heap.size 1 (some ⟨b, o + k, none⟩) 1 (bytesOf 1 (leafF n f k)) ∨ (wb.alloc (.cells #[.slice (some ⟨b, o + k, none⟩) 1 (c - k)] 25)).ownsRow w.heap.size 5 1 (.slice (some ⟨b, o + k, none⟩) 1 (c - k)) 1 (bytesOf 1 (leafF n f k))) := by
          refine .inl (Reads.flat (o := o + k) (fun _ => ⟨rfl, World.block_lt_of_cell? w _ (HC.out 0 (by omega))⟩) (fun j hj => ?_))
          obtain rfl : j = 0 := by omega
          rw [Nat.add_zero, HC.out k hkn]
          unfold leafF
          rw [if_pos hkn]
        have HX4 : Hid (∀ r, r < k → ∃ A cc, xs[r]? = some (.slice A 1 cc) ∧ (Reads w w.heap.size 1 A 1 (bytesOf 1 (leafF n f r)) ∨ (wb.alloc (.cells #[.slice (some ⟨b, o + k, none⟩) 1 (c - k)] 25)).ownsRow w.heap.size 5 1 (.slice A 1 cc) 1 (bytesOf 1 (leafF n f r)))) := fun r hr => by
          obtain ⟨A', c', e, hu⟩ := HX2.out r hr
          exact ⟨A', c', e, hu.imp id (fun h => owns_below h ((Below.refl wb.heap.size wb).alloc (Nat.le_refl _) _))⟩
        have HB3 := Lib.hid (HBB.out.alloc hzb (.cells #[.slice (some ⟨b, o + k, none⟩) 1 (c - k)] 25))
        have ew := HWB.out
        subst ew
        go_wp2_with (first
          | (at_builtin
             refine wpList_append_any _ rfl (.tmp 27) (.tmp 29) _ rfl w.heap.size 25 i0 _ 1 24 Try.underlying22 hi0 hz0 hz1 hz2 rfl (by omega) _ k xs rfl
               HX3.out _ _ 1 1 _ rfl HN.out (one_slc _ _ _) (by unfold maxLen; omega) (by omega) HB3.out.size ?_
             intro v6 w6 ho6 hg6 hat6
             have hb6 : Below w.heap.size w w6 := HB3.out.grown hg6 HB3.out.size (fun g e => (HX3.out.lt g e).1)
             have HL6 := Lib.hid (ListL.snoc HX3.out HX4.out HU.out ho6 hg6)
             have HB6 := Lib.hid hb6
             clear ho6 hg6 hat6 hb6))
        go_roundw
        case rel => exact ⟨k + 1, by omega, by go_num, HL6.out, HB6.out⟩
        case measure => simp [intOf]; omega
      · have hkni : ¬ (k : Int) < (n : Int) := by omega
        have hzb := HBB.out.size
        have HX3 := Lib.hid (owns_below HX1.out ((Below.refl wb.heap.size wb).alloc (Nat.le_refl _) (.cells #[.slice (some ⟨wr.heap.size, 0, none⟩) 1 1] 25)))
        have HN := Lib.hid (one_sl wb (some ⟨wr.heap.size, 0, none⟩) 1 (1) (wr.heap.size + 1) (by rw [← HWB.out, World.size_alloc]))
        have HU : Hid (Reads w w.heap.size 1 (some ⟨wr.heap.size, 0, none⟩) 1 (bytesOf 1 (leafF n f k)) ∨ (wb.alloc (.cells #[.slice (some ⟨wr.heap.size, 0, none⟩) 1 1] 25)).ownsRow w.heap.size 5 1 (.slice (some ⟨wr.heap.size, 0, none⟩) 1 1) 1 (bytesOf 1 (leafF n f k))) := by
          refine .inr (owns_below ?_ ((Below.refl wb.heap.size wb).alloc (Nat.le_refl _) _))
          have e : leafF n f k = fun _ => UInt8.ofNat k := by funext j; unfold leafF; rw [if_neg hkn]
          rw [e]
          exact HONE.out
        have HX4 : Hid (∀ r, r < k → ∃ A cc, xs[r]? = some (.slice A 1 cc) ∧ (Reads w w.heap.size 1 A 1 (bytesOf 1 (leafF n f r)) ∨ (wb.alloc (.cells #[.slice (some ⟨wr.heap.size, 0, none⟩) 1 1] 25)).ownsRow w.heap.size 5 1 (.slice A 1 cc) 1 (bytesOf 1 (leafF n f r)))) := fun r hr => by
          obtain ⟨A', c', e, hu⟩ := HX2.out r hr
          exact ⟨A', c', e, hu.imp id (fun h => owns_below h ((Below.refl wb.heap.size wb).alloc (Nat.le_refl _) _))⟩
        have HB3 := Lib.hid (HBB.out.alloc hzb (.cells #[.slice (some ⟨wr.heap.size, 0, none⟩) 1 1] 25))
        have ew := HWB.out
        subst ew
        go_wp2_with (first
          | (at_builtin
             refine wpList_append_any _ rfl (.tmp 27) (.tmp 29) _ rfl w.heap.size 25 i0 _ 1 24 Try.underlying22 hi0 hz0 hz1 hz2 rfl (by omega) _ k xs rfl
               HX3.out _ _ 1 1 _ rfl HN.out (one_slc _ _ _) (by unfold maxLen; omega) (by omega) HB3.out.size ?_
             intro v6 w6 ho6 hg6 hat6
             have hb6 : Below w.heap.size w w6 := HB3.out.grown hg6 HB3.out.size (fun g e => (HX3.out.lt g e).1)
             have HL6 := Lib.hid (ListL.snoc HX3.out HX4.out HU.out ho6 hg6)
             have HB6 := Lib.hid hb6
             clear ho6 hg6 hat6 hb6))
        go_roundw
        case rel => exact ⟨k + 1, by omega, by go_num, HL6.out, HB6.out⟩
        case measure => simp [intOf]; omega
    · obtain rfl : k = m := by omega
      have HL : Hid (ListL w wr (.slice Av k cv) k (leafF n f)) := ⟨xs, hx1, hx2⟩
      clear hb hx1 hx2 hlt
      go_wp2_with fail
      go_ret
      exact ⟨_, rfl, HL.out, HB.out⟩
end Go.Proofs.Ytlijjacnfdnhkaa
