/- The statement MoneySums, walked. -/
import Derived.Test.YtfinihdlkgnccaaMoneyW4
import Derived.Test.YtfinihdlkgnccaaClose
import Derived.Test.YtfinihdlkgnccaaOwn
namespace Go.Proofs.Ytfinihdlkgnccaa
open Go.RowKit
open MM
set_option linter.unusedVariables false

theorem info_u64 : (Try.prog.info? 22).map (fun i => (i.zero, i.size, i.bytes)) = some (some (.int .u64 0), 1, 8) := by kernel_rfl

theorem psum_rev (f : Nat → Nat) (n : Nat) : psum (fun j => f (n - 1 - j)) n = psum f n := by
  have key : ∀ k, k ≤ n → psum (fun j => f (n - 1 - j)) k + psum f (n - k) = psum f n := by
    intro k
    induction k with
    | zero => intro _; simp [psum]
    | succ k ih =>
      intro hk
      have h := ih (by omega)
      have e : n - k = (n - (k + 1)) + 1 := by omega
      rw [e] at h
      have e2 : psum f (n - (k + 1) + 1) = psum f (n - (k + 1)) + f (n - (k + 1)) := rfl
      have e3 : psum (fun j => f (n - 1 - j)) (k + 1) = psum (fun j => f (n - 1 - j)) k + f (n - 1 - k) := rfl
      have e4 : n - 1 - k = n - (k + 1) := by omega
      rw [e2] at h
      rw [e3, e4]
      omega
  have := key n (Nat.le_refl n)
  simpa [psum] using this

set_option maxRecDepth 100000 in
set_option maxHeartbeats 2000000 in
theorem sums_any (ao : Option Addr) (b off n cap : Nat) (f : Nat → Nat) (ao' : Option Addr) (b' off' n' cap' : Nat) (f' : Nat → Nat) (hn : n ≤ 60) (hn' : n' ≤ 60)
    (hf : ∀ j, j < n → f j < 18446744073709551616) (hf' : ∀ j, j < n' → f' j < 65536) (w : World)
    (hao : 0 < n → ao = some ⟨b, off, none⟩) (hc : ∀ j, j < n → w.cell? ⟨b, off + j, none⟩ = some (.int .u64 (f j)))
    (hao' : 0 < n' → ao' = some ⟨b', off', none⟩) (hc' : ∀ j, j < n' → w.cell? ⟨b', off' + j, none⟩ = some (.int .u16 (f' j))) :
    Calls Try.prog 6 #[.slice ao n cap, .slice ao' n' cap'] w fun e w' => e = .returned (.bool true) ∧ Below w.heap.size w w' := by
  have HK := Lib.hid known_any
  have HC := Lib.hid hc
  have HC' := Lib.hid hc'
  have HF := Lib.hid hf
  have HF' := Lib.hid hf'
  have HA := Lib.hid hao
  have HA' := Lib.hid hao'
  clear hc hc' hf hf' hao hao'
  obtain ⟨i0, hi, hz0, hz1, hz2⟩ := info_parts info_u64
  have hlt : ∀ j, j < n → b < w.heap.size := fun j hj => World.block_lt_of_cell? w _ (HC.out j hj)
  have hlt' : ∀ j, j < n' → b' < w.heap.size := fun j hj => World.block_lt_of_cell? w _ (HC'.out j hj)
  have HL := Lib.hid hlt
  have HL' := Lib.hid hlt'
  clear hlt hlt'
  go_enter Try.func6, Try.ntmps6
  go_wp2_with fail
  go_loopw [5, 31] (fun v i wr => ∃ k : Nat, k ≤ n' ∧ i = .int .i64 k ∧ wr.ownsRow w.heap.size 22 1 v k ((List.range k).map fun j => .int .u64 ((f' j * 1099511627776 : Nat) : Int)) ∧ Below w.heap.size w wr) (fun _ i _ => (n' - intOf i).toNat)
  case atStart => exact ⟨0, Nat.zero_le _, rfl, World.ownsRow_nil _ _ _ _, Below.refl _ _⟩
  case round =>
    obtain ⟨k, hk, rfl, hown, hbel⟩ := hrel
    by_cases hlt : k < n'
    · obtain rfl := HA'.out (by omega)
      have hcell := (hbel.cell (p := ⟨b', off' + k, none⟩) (HL'.out k hlt)).trans (HC'.out k hlt)
      have hfk := HF'.out k hlt
      obtain ⟨x, hx⟩ : ∃ x, f' k = x := ⟨_, rfl⟩
      rw [hx] at hcell hfk
      have HX := Lib.hid hx
      clear hx
      have hsz := hbel.size
      go_wp2_with (at_builtin; refine halted ?_)
      change wpList _ _ _ _ _ _
      refine app_own rfl _ _ 32 rfl w.heap.size 22 i0 (.int .u64 0) 1 8 Try.underlying32 hi hz0 hz1 hz2 rfl (by decide) _ k _ rfl hown _ _ rfl rfl (by intro u hu; simp at hu; subst hu; rfl) (by omega) (by omega) hsz ?_
      intro v' w' hown' hgr
      have hb' := grownBy_below hbel hown hgr hsz (Nat.le_refl _)
      clear hown hgr hcell hbel hsz
      go_wp2_with fail
      go_roundw
      case rel => exact ⟨k + 1, hlt, by go_num, by rw [map_snoc, HX.out]; simpa using hown', hb'⟩
      case measure => simp [intOf]; omega
    · obtain rfl : n' = k := by omega
      obtain ⟨wo, rfl⟩ : ∃ wo : World, wo = wr := ⟨_, rfl⟩
      have hsz := hbel.size
      obtain ⟨am, gm, capm, rfl, hm1, hm2, _, hm3⟩ := owns_cells hown
      have M1 := Lib.hid hm1
      have M2 := Lib.hid hm2
      have M3 : Hid (∀ j, j < n' → wo.cell? ⟨gm, 0 + j, none⟩ = some (.int .u64 ((f' j * 1099511627776 : Nat) : Int))) := by
        intro j hj
        exact hm3 j _ (by simp [hj])
      have HBEL := Lib.hid hbel
      clear hown hbel hm1 hm2 hm3 hlt
      go_wp2_with fail
      go_loopw [6, 9] (fun v i wx => ∃ k : Nat, k ≤ n ∧ i = .int .i64 ((n : Int) - 1 - k) ∧ wx.ownsRow wo.heap.size 22 1 v k ((List.range k).map fun j => .int .u64 ((f (n - 1 - j) : Nat) : Int)) ∧ Below wo.heap.size wo wx) (fun _ i _ => (intOf i + 1).toNat)
      case atStart => exact ⟨0, Nat.zero_le _, by go_num, World.ownsRow_nil _ _ _ _, Below.refl _ _⟩
      case round =>
        obtain ⟨k, hk, rfl, hown, hbel⟩ := hrel
        by_cases hlt : k < n
        · obtain rfl := HA.out (by omega)
          have hcell := (hbel.cell (p := ⟨b, off + (n - 1 - k), none⟩) (by have := HL.out k hlt; show b < _; omega)).trans ((HBEL.out.cell (p := ⟨b, off + (n - 1 - k), none⟩) (HL.out k hlt)).trans (HC.out (n - 1 - k) (by omega)))
          obtain ⟨x, hx⟩ : ∃ x, f (n - 1 - k) = x := ⟨_, rfl⟩
          obtain ⟨q, hq⟩ : ∃ q, n = k + 1 + q := ⟨n - 1 - k, by omega⟩
          rw [hx] at hcell
          rw [show n - 1 - k = q by omega] at hcell
          have HX := Lib.hid hx
          clear hx
          have hidx : ((n : Int) - 1 - k) = q := by omega
          have HQ := Lib.hid hq
          have hqn : q < n := by omega
          rw [hidx]
          clear hq hidx
          have hsz2 := hbel.size
          go_wp2_with (at_builtin; refine halted ?_)
          change wpList _ _ _ _ _ _
          refine app_own rfl _ _ 32 rfl wo.heap.size 22 i0 (.int .u64 0) 1 8 Try.underlying32 hi hz0 hz1 hz2 rfl (by decide) _ k _ rfl hown _ _ rfl rfl (by intro u hu; simp at hu; subst hu; rfl) (by omega) (by omega) hsz2 ?_
          intro v' w' hown' hgr
          have hb' := grownBy_below hbel hown hgr hsz2 (Nat.le_refl _)
          clear hown hgr hcell hbel hsz2
          go_wp2_with fail
          go_roundw
          case rel => exact ⟨k + 1, hlt, by have := HQ.out; go_num, by rw [map_snoc, HX.out]; simpa using hown', hb'⟩
          case measure => simp [intOf]
        · obtain rfl : n = k := by omega
          obtain ⟨wt, rfl⟩ : ∃ wt : World, wt = wr := ⟨_, rfl⟩
          have hsz2 := hbel.size
          obtain ⟨ab, gb, capb, rfl, hb1, hb2, _, hb3⟩ := owns_cells hown
          have B1 := Lib.hid hb1
          have B3 : Hid (∀ j, j < n → wt.cell? ⟨gb, 0 + j, none⟩ = some (.int .u64 ((f (n - 1 - j) : Nat) : Int))) := by
            intro j hj
            exact hb3 j _ (by simp [hj])
          have L3 : Hid (∀ j, j < n → wt.cell? ⟨b, off + j, none⟩ = some (.int .u64 (f j))) := by
            intro j hj
            exact (hbel.cell (p := ⟨b, off + j, none⟩) (by have := HL.out j hj; show b < _; omega)).trans ((HBEL.out.cell (p := ⟨b, off + j, none⟩) (HL.out j hj)).trans (HC.out j hj))
          have M4 : Hid (∀ j, j < n' → wt.cell? ⟨gm, 0 + j, none⟩ = some (.int .u64 ((f' j * 1099511627776 : Nat) : Int))) := by
            intro j hj
            exact (hbel.cell (p := ⟨gm, 0 + j, none⟩) (M2.out (by omega)).2).trans (M3.out j hj)
          have BIG : Hid (Below w.heap.size w wt) := HBEL.out.trans (hbel.mono hsz)
          have BS : Hid (w.heap.size ≤ wt.heap.size) := Nat.le_trans hsz hsz2
          have s1 := sum_any ao b off n cap f (by omega) HF.out wt HA.out L3.out
          have s2 := rsum_any ao b off n cap f (by omega) HF.out wt HA.out L3.out
          have s3 := sum_any am gm 0 n' capm (fun j => f' j * 1099511627776) (by omega) (by intro j hj; have := HF'.out j hj; omega) wt M1.out M4.out
          have s4 := rsum_any am gm 0 n' capm (fun j => f' j * 1099511627776) (by omega) (by intro j hj; have := HF'.out j hj; omega) wt M1.out M4.out
          have s5 := sum_any ab gb 0 n capb (fun j => f (n - 1 - j)) (by omega) (by intro j hj; exact HF.out _ (by omega)) wt B1.out B3.out
          have er : psum (fun j => f (n - 1 - j)) n = psum f n := psum_rev f n
          have e1 : sumV (fun j => f (n - 1 - j)) n = sumV f n := by unfold sumV sumOk; rw [er]
          have e2 : sumOk (fun j => f (n - 1 - j)) n = sumOk f n := by unfold sumOk; rw [er]
          rw [e1, e2] at s5
          clear er e1 e2
          generalize sumV f n = v1 at *
          generalize sumOk f n = o1 at *
          generalize sumV (fun j => f' j * 1099511627776) n' = v2 at *
          generalize sumOk (fun j => f' j * 1099511627776) n' = o2 at *
          have S1 := Lib.hid s1
          have S2 := Lib.hid s2
          have S3 := Lib.hid s3
          have S4 := Lib.hid s4
          have S5 := Lib.hid s5
          clear hown hbel hb1 hb2 hb3 s1 s2 s3 s4 s5 hsz hsz2
          have i1 : ∀ w, (Instr.index 36 (.agg #[.slice ao n cap, .slice am n' capm]) (.int .i64 0)).run Try.prog w = .ok (.slice ao n cap) w := fun _ => by kernel_rfl
          have i2 : ∀ w, (Instr.index 36 (.agg #[.slice ao n cap, .slice am n' capm]) (.int .i64 1)).run Try.prog w = .ok (.slice am n' capm) w := fun _ => by kernel_rfl
          go_wp2_with fail
          go_loop [59] (fun i => ∃ k : Nat, k ≤ 2 ∧ i = .int .i64 k) (fun i => (2 - intOf i).toNat)
          case atStart => exact ⟨0, by omega, rfl⟩
          case round =>
            obtain ⟨k, hk, rfl⟩ := hrel
            have : k = 0 ∨ k = 1 ∨ k = 2 := by omega
            rcases this with rfl | rfl | rfl
            · go_wp2_with fail
              refine S1.out.mono ?_; rintro e w' ⟨rfl, rfl⟩
              go_wp2_with fail
              refine S2.out.mono ?_; rintro e w' ⟨rfl, rfl⟩
              go_wp2_with fail
              go_round
              case rel => exact ⟨1, by omega, by go_num⟩
              case measure => simp [intOf]
            · go_wp2_with fail
              refine S3.out.mono ?_; rintro e w' ⟨rfl, rfl⟩
              go_wp2_with fail
              refine S4.out.mono ?_; rintro e w' ⟨rfl, rfl⟩
              go_wp2_with fail
              go_round
              case rel => exact ⟨2, by omega, by go_num⟩
              case measure => simp [intOf]
            · go_wp2_with fail
              refine S1.out.mono ?_; rintro e w' ⟨rfl, rfl⟩
              go_wp2_with fail
              refine S5.out.mono ?_; rintro e w' ⟨rfl, rfl⟩
              go_wp2_with fail
              refine (HK.out _).mono ?_; rintro e w' ⟨rfl, hb⟩
              go_wp2_with fail
              go_ret
              exact ⟨rfl, BIG.out.trans (hb.mono BS.out)⟩

theorem sums_long (ao : Option Addr) (n cap : Nat) (ao' : Option Addr) (n' cap' : Nat) (h1 : n ≤ 9223372036854775807) (h2 : n' ≤ 9223372036854775807) (h : 60 < n ∨ 60 < n') (w : World) :
    Calls Try.prog 6 #[.slice ao n cap, .slice ao' n' cap'] w fun e w' => e = .returned (.bool true) ∧ Below w.heap.size w w' := by
  have HK := Lib.hid known_any
  by_cases h3 : 60 < n
  · clear h
    go_enter Try.func6, Try.ntmps6
    go_wp2_with fail
    refine (HK.out _).mono ?_; rintro e w' ⟨rfl, hb⟩
    go_wp2_with fail
    go_ret
    exact ⟨rfl, hb⟩
  · have h4 : 60 < n' := by omega
    clear h
    go_enter Try.func6, Try.ntmps6
    go_wp2_with fail
    refine (HK.out _).mono ?_; rintro e w' ⟨rfl, hb⟩
    go_wp2_with fail
    go_ret
    exact ⟨rfl, hb⟩
end Go.Proofs.Ytfinihdlkgnccaa
