/- mempoolmake.Name and Entry. -/
import Derived.Test.YtoamjdjmfhdaeaaEnt
import Derived.Deep.RegionLaw
import Derived.Outline
namespace Go.Proofs.Ytoamjdjmfhdaeaa
open Go.RowKit
set_option linter.unusedVariables false
set_option linter.unusedSimpArgs false
open ShaW Sha

def NamePost (w : World) (B D n N : Nat) (e : Ending) (w' : World) : Prop := ∃ s : ByteArray, s.size ≤ 3 ∧ e = .returned (.string s) ∧ Only (fun k => k = D) w w' ∧ NumAt w' B D n (N + 1)
theorem name_any (w : World) (B D n N : Nat) (h : NumAt w B D n N) (hB : B ≤ w.heap.size) (hN : N ≤ 1099511627776) :
    Calls Try.prog 35 #[.pointer (some ⟨D, 0, none⟩)] w (NamePost w B D n N) := by
  have HN := Lib.hid h
  clear h
  go_enter Try.func35, Try.ntmps35
  go_wp2_with fail
  generalize hwa : World.alloc w _ = wa
  have hb0 : Below w.heap.size w wa := by rw [← hwa]; exact (Below.refl _ _).alloc (Nat.le_refl _) _
  have hk : Blk wa w.heap.size 9 #[.string { data := #[97, 110, 110] }, .string { data := #[98, 111, 98] }, .string { data := #[101, 118, 101] }, .string { data := #[122, 111, 101] }, .string { data := #[110, 101, 119] }, .string { data := #[120, 45, 49] }] := by rw [← hwa]; exact Blk.new _ _ _
  have hn0 : NumAt wa B D n N := HN.out.only (Only.of_below (fun _ => False) hb0) hB (fun _ h => h.elim) (fun h => h)
  have HB0 := Lib.hid hb0
  have HK := Lib.hid hk
  have HN0 := Lib.hid hn0
  clear hwa hb0 hk hn0
  refine (next_any wa B D n N 6 HN0.out (by omega) (by omega) (by omega)).mono ?_
  rintro e w1 ⟨x, hx, rfl, ho1, hz1, hn1⟩
  obtain ⟨s, hs, hc⟩ : ∃ s : ByteArray, s.size ≤ 3 ∧ w1.cell? ⟨w.heap.size, x, none⟩ = some (.string s) := by
    obtain ⟨A, c, f, _, hbn, _⟩ := HN0.out
    have hk1 := HK.out.only ho1 (Blk.ne_ HK.out hbn (by decide))
    have hc := hk1.cell x
    rcases (show x = 0 ∨ x = 1 ∨ x = 2 ∨ x = 3 ∨ x = 4 ∨ x = 5 by omega) with rfl | rfl | rfl | rfl | rfl | rfl <;> exact ⟨_, Nat.le_refl _, hc⟩
  have HO1 := Lib.hid ((Only.of_below (fun k => k = D) HB0.out).trans ho1 (fun k hk => .inl hk))
  have HN1 := Lib.hid hn1
  have hx6 : (x : Int) < 6 := by omega
  have hx0 : (0 : Int) ≤ x := by omega
  clear ho1 hz1 hn1
  go_wp2_with fail
  go_ret
  exact ⟨s, hs, rfl, HO1.out, HN1.out⟩
theorem bytesOf_setN (n : Nat) (f : Nat → UInt8) (j : Nat) (b : UInt8) : (bytesOf n f).set j (.int .u8 (b.toNat : Int)) = bytesOf n (fun k => if k = j then b else f k) := by
  unfold bytesOf
  apply List.ext_getElem?
  intro k
  rw [List.getElem?_set, List.getElem?_map, List.getElem?_map, List.length_map, List.length_range]
  by_cases hk : k < n
  · rw [List.getElem?_range hk]
    by_cases e : j = k
    · subst e; simp [hk]
    · simp [e, Ne.symm e]
  · rw [List.getElem?_eq_none (l := List.range n) (by simp; omega)]
    by_cases e : j = k
    · subst e; simp [hk]
    · simp [e]
end Go.Proofs.Ytoamjdjmfhdaeaa
