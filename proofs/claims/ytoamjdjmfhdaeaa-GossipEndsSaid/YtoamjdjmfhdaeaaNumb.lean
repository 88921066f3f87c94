/- mempoolmake's numbers: From, Next, Place. -/
import Derived.Test.YtoamjdjmfhdaeaaOnly
import Derived.Deep.QuietTactic
import Derived.BigQuiet
import Derived.RegionTactic
import Derived.IntWalk
namespace Go.Proofs.Ytoamjdjmfhdaeaa
open Go.RowKit
set_option linter.unusedVariables false

/-- numbers that lie in a slice -/
def IntsAt (w : World) (B : Nat) (A : Option Addr) (n c : Nat) (f : Nat → Int) : Prop :=
  n ≤ c ∧ c ≤ 9223372036854775807 ∧ ∃ b o, (0 < n → A = some ⟨b, o, none⟩ ∧ b < B) ∧ (∀ j, j < n → w.cell? ⟨b, o + j, none⟩ = some (.int .i64 (f j))) ∧ ∀ j, j < n → -9223372036854775808 ≤ f j ∧ f j ≤ 9223372036854775807
theorem IntsAt.below {w w' : World} {B : Nat} {A : Option Addr} {n c : Nat} {f : Nat → Int} (h : IntsAt w B A n c f) (hb : Below B w w') : IntsAt w' B A n c f := by
  obtain ⟨h1, h2, b, o, h3, h4, h5⟩ := h
  refine ⟨h1, h2, b, o, h3, fun j hj => ?_, h5⟩
  rw [hb.cell (p := ⟨b, o + j, none⟩) (h3 (by omega)).2]
  exact h4 j hj
theorem IntsAt.more {w : World} {B B' : Nat} {A : Option Addr} {n c : Nat} {f : Nat → Int} (h : IntsAt w B A n c f) (hB : B ≤ B') : IntsAt w B' A n c f := by
  obtain ⟨h1, h2, b, o, h3, h4, h5⟩ := h
  exact ⟨h1, h2, b, o, fun hp => ⟨(h3 hp).1, Nat.lt_of_lt_of_le (h3 hp).2 hB⟩, h4, h5⟩
/-- at D lie n numbers, of which N were taken -/
def NumAt (w : World) (B D n N : Nat) : Prop := ∃ A c f, B ≤ D ∧ Blk w D 63 #[.slice A n c, .int .i64 (N : Int)] ∧ IntsAt w B A n c f
theorem NumAt.lt {w : World} {B D n N : Nat} (h : NumAt w B D n N) : D < w.heap.size := by obtain ⟨_, _, _, _, h, _⟩ := h; exact h.lt
theorem NumAt.ge {w : World} {B D n N : Nat} (h : NumAt w B D n N) : B ≤ D := by obtain ⟨_, _, _, h, _, _⟩ := h; exact h
theorem NumAt.only {S : Nat → Prop} {w w' : World} {B D n N : Nat} (h : NumAt w B D n N) (ho : Only S w w') (hB : B ≤ w.heap.size) (hs : ∀ k, S k → B ≤ k) (hD : ¬ S D) : NumAt w' B D n N := by
  obtain ⟨A, c, f, h1, h2, h3⟩ := h
  exact ⟨A, c, f, h1, h2.only ho hD, h3.below (ho.below_ hB hs)⟩

/-- a number from 0 to below m -/
def placeN (x : Int) (m : Nat) : Nat := (x % (m : Int)).toNat
theorem placeN_lt (x : Int) {m : Nat} (h : 0 < m) : placeN x m < m := by
  unfold placeN
  have h1 := Int.emod_nonneg x (show (m : Int) ≠ 0 by omega)
  have h2 := Int.emod_lt_of_pos x (show (0 : Int) < m by omega)
  omega
theorem tmod_bd (x : Int) (m : Nat) (h : 0 < m) : -(m : Int) < x.tmod m ∧ x.tmod m < m := by
  have h1 := Int.tmod_lt_of_pos x (show (0 : Int) < m by omega)
  have h2 := Int.lt_tmod_of_pos x (show (0 : Int) < m by omega)
  omega
theorem place_val (x : Int) (m : Nat) (h : 0 < m) : (if x.tmod m < 0 then x.tmod m + m else x.tmod m) = (placeN x m : Int) := by
  unfold placeN
  have h1 := Int.emod_nonneg x (show (m : Int) ≠ 0 by omega)
  rw [Int.toNat_of_nonneg h1]
  have e := Int.tmod_eq_emod (a := x) (b := (m : Int))
  have hlt := Int.emod_lt_of_pos x (show (0 : Int) < m by omega)
  have hn : ((m : Int).natAbs : Int) = m := by omega
  split at e
  · split <;> omega
  · rw [hn] at e
    split <;> omega
theorem ret_num {k : IntKind} {a b : Int} (h : a = b) : Ending.returned (.int k a) = .returned (.int k b) := by rw [h]
set_option maxHeartbeats 1000000 in
theorem place_any (w : World) (x : Int) (m : Nat) (hx1 : -9223372036854775808 ≤ x) (hx2 : x ≤ 9223372036854775807) (h : 0 < m) (hm : m ≤ 1099511627776) :
    Calls Try.prog 18 #[.int .i64 x, .int .i64 (m : Int)] w fun e w' => e = .returned (.int .i64 (placeN x m : Int)) ∧ w = w' := by
  obtain ⟨b1, b2⟩ := tmod_bd x m h
  have hv := place_val x m h
  obtain ⟨t, ht⟩ : ∃ t, x.tmod m = t := ⟨_, rfl⟩
  rw [ht] at b1 b2 hv
  have hm0 : (m : Int) ≠ 0 := by omega
  have hm1 : ((m : Int) == -1) = false := by simp
  have HT := Lib.hid ht
  have HV := Lib.hid hv
  clear ht hv
  have hq : Hid (IntKind.i64.wrap t = t) := IntWalk.i64_in _ (by omega)
  go_enter Try.func18, Try.ntmps18
  go_wp2
  all_goals
    go_ret
    have ht := HT.out
    have hv := HV.out
  · rename_i hneg
    refine ⟨ret_num ?_, rfl⟩
    rw [ht] at hneg ⊢
    rw [if_pos hneg] at hv
    rw [← hv]
    exact IntWalk.wrap64_in _ (by omega)
  · rename_i hneg
    refine ⟨ret_num ?_, rfl⟩
    rw [ht] at hneg ⊢
    rw [if_neg (by omega)] at hv
    exact hv

/-- the number that lies next, put below m -/
def NextPost (w : World) (B D n N m : Nat) (e : Ending) (w' : World) : Prop := ∃ x : Nat, x < m ∧ e = .returned (.int .i64 (x : Int)) ∧ Only (fun k => k = D) w w' ∧ w'.heap.size = w.heap.size ∧ NumAt w' B D n (N + 1)

set_option maxHeartbeats 1000000 in
theorem next_any (w : World) (B D n N m : Nat) (h : NumAt w B D n N) (hm : 0 < m) (hm2 : m ≤ 1099511627776) (hN : N ≤ 1099511627776) :
    Calls Try.prog 22 #[.pointer (some ⟨D, 0, none⟩), .int .i64 (m : Int)] w (NextPost w B D n N m) := by
  obtain ⟨A, c, f, hBD, hb, hi⟩ := h
  have x0 : w.cell? ⟨D, 0, none⟩ = some (.slice A n c) := hb.cell 0
  have x1 : w.cell? ⟨D, 1, none⟩ = some (.int .i64 (N : Int)) := hb.cell 1
  have y1 := hb.frozen 1
  have hfin : ∀ k : Nat, NumAt ((w.drewN k).setCell ⟨D, 1, none⟩ (.int .i64 ((N : Int) + 1))) B D n (N + 1) := fun k => by
    refine ⟨A, c, f, hBD, hb.set_ 1 (.int .i64 ((N : Int) + 1)), hi.below ?_⟩
    have h := ((Below.refl B (w.drewN k)).setCell (p := ⟨D, 1, none⟩) hBD (.int .i64 ((N : Int) + 1)))
    exact ⟨h.os, h.tape, h.output, h.size, h.block⟩
  have hof : ∀ k : Nat, Only (fun j => j = D) w ((w.drewN k).setCell ⟨D, 1, none⟩ (.int .i64 ((N : Int) + 1))) := fun k => ((Only.refl (fun j => j = D) w).drewN_ k).setCell_ (p := ⟨D, 1, none⟩) (.inl rfl) _
  have HFIN := Lib.hid hfin
  have HOF := Lib.hid hof
  obtain ⟨hnc, hcm, b, o, hA, hcell, hbd⟩ := hi
  rcases Nat.lt_or_ge N n with hlt | hge
  · obtain ⟨rfl, hbB⟩ := hA (by omega)
    obtain ⟨v, hv⟩ : ∃ v, f N = v := ⟨_, rfl⟩
    have hc := hcell N hlt
    obtain ⟨v1, v2⟩ := hbd N hlt
    rw [hv] at hc v1 v2
    have hpl := place_any ((w.drewN 0).setCell ⟨D, 1, none⟩ (.int .i64 ((N : Int) + 1))) v m v1 v2 hm hm2
    have hx := placeN_lt v hm
    have ht : (N : Int) < n := by omega
    have hPL := fun W => Lib.hid (place_any W v m v1 v2 hm hm2)
    have HPL := Lib.hid hPL
    clear hfin hof hA hcell hbd hb hv hpl hPL
    go_enter Try.func22, Try.ntmps22
    go_wp2_with fail
    go_quiet (fail)
    go_wp2_with fail
    go_quiet (fail)
    go_wp2_with fail
    refine (HPL.out _).out.mono ?_
    rintro e w1 ⟨rfl, rfl⟩
    go_wp2_with fail
    go_ret
    exact ⟨_, hx, rfl, HOF.out _, by simp, HFIN.out _⟩
  · have hx := placeN_lt 0 hm
    have ht : ¬ ((N : Int) < n) := by omega
    have ht2 : decide ((N : Int) < n) = false := by simpa using ht
    have hPL := fun W => Lib.hid (place_any W 0 m (by omega) (by omega) hm hm2)
    have HPL := Lib.hid hPL
    clear hfin hof hA hcell hbd hb hPL
    go_enter Try.func22, Try.ntmps22
    go_wp2_with fail
    go_quiet (fail)
    go_wp2_with fail
    refine (HPL.out _).out.mono ?_
    rintro e w1 ⟨rfl, rfl⟩
    go_wp2_with fail
    go_ret
    exact ⟨_, hx, rfl, HOF.out _, by simp, HFIN.out _⟩

theorem from_any (w : World) (B n c : Nat) (A : Option Addr) (f : Nat → Int) (h : IntsAt w B A n c f) (hB : B ≤ w.heap.size) :
    Calls Try.prog 20 #[.slice A n c] w fun e w' => e = .returned (.pointer (some ⟨w.heap.size, 0, none⟩)) ∧ Below w.heap.size w w' ∧ w'.heap.size = w.heap.size + 1 ∧ NumAt w' B w.heap.size n 0 := by
  go_enter Try.func20, Try.ntmps20
  go_wp2
  go_ret
  refine ⟨rfl, (Below.refl _ _).alloc (Nat.le_refl _) _, by simp, A, c, f, hB, heap_alloc_new _ _, h.below ?_⟩
  exact (Below.refl _ _).alloc hB _
end Go.Proofs.Ytoamjdjmfhdaeaa
