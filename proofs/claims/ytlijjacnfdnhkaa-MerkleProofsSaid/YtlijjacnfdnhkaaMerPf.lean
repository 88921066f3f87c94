/- MerkleProofs: the walk. -/
import Derived.Test.YtlijjacnfdnhkaaMerSk
namespace Go.Proofs.Ytlijjacnfdnhkaa
open Go.RowKit
set_option linter.unusedVariables false
open ShaW Sha

/-- the path of a leaf, and whether there is one -/
def pathOr (n : Nat) (L : Nat → Nat) (F : Nat → Nat → UInt8) (k : Int) : List Ky × Bool := if 0 ≤ k ∧ k < n then (pathK n k.toNat L F, true) else ([], false)
def ProofOr (w w' : World) (ps : List Ky) (b : Bool) (e : Ending) : Prop := ∃ A' c', e = .returned (.tuple #[.slice A' ps.length c', .bool b]) ∧ Below w.heap.size w w' ∧ KeysAt w' A' ps.length c' ps
theorem keysAt_nil (w : World) : KeysAt w none 0 0 [] := ⟨rfl, Nat.le_refl _, Nat.zero_le _, 0, 0, fun h => absurd h (Nat.lt_irrefl _), fun j u hu => by simp [keysOf] at hu⟩
theorem mproof_or (w : World) (A : Option Addr) (n c : Nat) (L : Nat → Nat) (F : Nat → Nat → UInt8) (k : Int) (h : RowsAt w A n c L F) (hn : n ≤ 1073741823) :
    Calls Try.prog 16 #[.slice A n c, .int .i64 k] w fun e w' => ProofOr w w' (pathOr n L F k).1 (pathOr n L F k).2 e := by
  by_cases hk : 0 ≤ k ∧ k < n
  · obtain ⟨i, rfl⟩ := Int.eq_ofNat_of_zero_le hk.1
    have e : pathOr n L F (i : Int) = (pathK n i L F, true) := by unfold pathOr; rw [if_pos hk]; rfl
    rw [e]
    refine (mproof_any n hn w A c L F i h (by omega)).mono ?_
    rintro e w' ⟨A', c', h1, h2, h3⟩
    exact ⟨A', c', h1, h2, KeysAt.of_own h3⟩
  · have e : pathOr n L F k = ([], false) := by unfold pathOr; rw [if_neg hk]
    rw [e]
    refine (mproof_out w A n c k (by omega)).mono ?_
    rintro e w' ⟨h1, h2⟩
    exact ⟨none, 0, h1, h2 ▸ Below.refl _ _, keysAt_nil _⟩
theorem rproof_or (w : World) (A : Option Addr) (n c : Nat) (L : Nat → Nat) (F : Nat → Nat → UInt8) (k : Int) (h : RowsAt w A n c L F) (hn : n ≤ 1073741823) :
    Calls Try.prog 17 #[.slice A n c, .int .i64 k] w fun e w' => ProofOr w w' (pathOr n L F k).1 (pathOr n L F k).2 e := by
  by_cases hk : 0 ≤ k ∧ k < n
  · obtain ⟨i, rfl⟩ := Int.eq_ofNat_of_zero_le hk.1
    have e : pathOr n L F (i : Int) = (pathK n i L F, true) := by unfold pathOr; rw [if_pos hk]; rfl
    rw [e]
    refine (rproof_any n hn w A c L F i h (by omega)).mono ?_
    rintro e w' ⟨A', c', h1, h2, h3⟩
    exact ⟨A', c', h1, h2, KeysAt.of_own h3⟩
  · have e : pathOr n L F k = ([], false) := by unfold pathOr; rw [if_neg hk]
    rw [e]
    refine (rproof_out w A n c k (by omega)).mono ?_
    rintro e w' ⟨h1, h2⟩
    exact ⟨none, 0, h1, h2 ▸ Below.refl _ _, keysAt_nil _⟩
theorem pathOr_len (n : Nat) (L : Nat → Nat) (F : Nat → Nat → UInt8) (k : Int) : (pathOr n L F k).1.length ≤ n := by
  unfold pathOr
  split
  · exact pathK_len _ _ _ _
  · exact Nat.zero_le _
set_option maxRecDepth 100000 in
set_option maxHeartbeats 40000000 in
theorem merProofs_any (w : World) (A0 A : Option Addr) (n0 c0 n c b o : Nat) (L : Nat → Nat) (F0 : Nat → Nat → UInt8) (ik : Int) (f : Nat → UInt8) (x at_ : Nat) (hx : x < 256) (hat : at_ < 256) (hrows : RowsL w A0 n0 c0 L F0) (hL : ∀ r, r < n0 → L r ≤ 140737488355328)
    (hnc : n ≤ c) (hcm : c ≤ 9223372036854775807) (hA : 0 < n → A = some ⟨b, o, none⟩) (hc : ∀ j, j < n → w.cell? ⟨b, o + j, none⟩ = some (.int .u8 ((f j).toNat : Int))) :
    Calls Try.prog 4 #[.slice A0 n0 c0, .int .i64 ik, .slice A n c, .int .u8 (x : Int), .int .u8 (at_ : Int)] w fun e w' => e = .returned (.bool true) ∧ Below w.heap.size w w' := by
  have HRW := Lib.hid hrows
  have HL := Lib.hid hL
  have hR : ∀ W, Below w.heap.size w W → Reads W W.heap.size 1 A n (bytesOf n f) := fun W hW => by
    have h0 : Reads w w.heap.size 1 A n (bytesOf n f) := Reads.flat (o := o) (fun hp => ⟨hA hp, World.block_lt_of_cell? w _ (hc 0 hp)⟩) hc
    exact (h0.below hW).more hW.size
  have HR := Lib.hid hR
  have hlv : ∀ W, Below w.heap.size w W → Calls Try.prog 9 #[.slice A n c, .int .u8 (x : Int)] W fun e w' => ∃ v, e = .returned v ∧ ListL W w' v (x % 20) (leafF n f) ∧ Below W.heap.size W w' := fun W hW =>
    leaves_any W A n c b o f x hx hnc hcm hA (fun j hj => (hW.cell (p := ⟨b, o + j, none⟩) (World.block_lt_of_cell? w _ (hc j hj))).trans (hc j hj))
  have HLV := Lib.hid hlv
  clear hrows hL hR hlv hA hc
  go_enter Try.func4, Try.ntmps4
  go_wp2_with fail
  obtain ⟨wa, hwa⟩ : ∃ wa, wa = w := ⟨_, rfl⟩
  have hb0 : Below w.heap.size w wa := by rw [hwa]; exact Below.refl _ _
  have hrw : RowsL wa A0 n0 c0 L F0 := by rw [hwa]; exact HRW.out
  rw [← hwa]
  have HWA := Lib.hid hwa
  clear hwa
  have HRA := Lib.hid hrw
  have HB0 := Lib.hid hb0
  have hz0 := hb0.size
  clear hrw hb0
  refine (many_any wa A0 n0 c0 L F0 HRA.out HL.out).mono ?_
  rintro e w1 ⟨bm, rfl, rfl, hsm⟩
  cases bm with
  | true =>
    clear hsm
    go_wp2_with fail
    refine (known_any _).mono ?_
    rintro e w1 ⟨rfl, hb1⟩
    have HB := Lib.hid (HB0.out.trans (hb1.mono hz0))
    clear hb1
    go_wp2_with fail
    go_ret
    exact ⟨rfl, HB.out⟩
  | false =>
    obtain ⟨hn40, hl300⟩ := hsm rfl
    have HRS := Lib.hid (HRA.out.rows (fun r hr => Nat.le_trans (hl300 r hr) (by omega)))
    clear hsm hl300
    by_cases hbig : 100 < n
    · have hbi : (100 : Int) < n := by omega
      go_wp2_with fail
      refine (known_any _).mono ?_
      rintro e w1 ⟨rfl, hb1⟩
      have HB := Lib.hid (HB0.out.trans (hb1.mono hz0))
      clear hb1
      go_wp2_with fail
      go_ret
      exact ⟨rfl, HB.out⟩
    · have hbi : ¬ (100 : Int) < n := by omega
      obtain ⟨m, hm⟩ : ∃ m, x % 20 = m := ⟨_, rfl⟩
      have hml : m < 20 := by omega
      obtain ⟨F, hF⟩ : ∃ F, leafF n f = F := ⟨_, rfl⟩
      simp only [hm, hF] at HLV
      clear hm hF
      go_wp2_with fail
      refine (HLV.out wa HB0.out).mono ?_
      rintro e w1 ⟨v, rfl, hl, hb1⟩
      obtain ⟨Al, cl, rfl, hrows⟩ := hl.rows hb1
      have hr0 := HRS.out.below hb1
      have HR0 : Hid (RowsAt w1 A0 n0 c0 L F0) := hr0
      have HR1 : Hid (RowsAt w1 Al m cl (fun _ => 1) F) := hrows
      have HB1 := Lib.hid (HB0.out.trans (hb1.mono hz0))
      have hz1 := HB1.out.size
      clear hl hb1 hrows hr0
      go_wp2_with fail
      generalize hwd : World.alloc w1 _ = wd
      have hkd : Blk wd w1.heap.size 22 #[.slice A0 n0 c0, .slice Al m cl] := by rw [← hwd]; exact Blk.new w1 _ _
      have hbd : Below w1.heap.size w1 wd := by rw [← hwd]; exact (Below.refl _ _).alloc (Nat.le_refl _) _
      have hdl := hkd.lt
      clear hwd
      have HX : Hid (∀ q, q < 2 → ∃ (Ax : Option Addr) (nx cx : Nat) (Lx : Nat → Nat) (Fx : Nat → Nat → UInt8), wd.cell? ⟨w1.heap.size, q, none⟩ = some (.slice Ax nx cx) ∧ RowsAt wd Ax nx cx Lx Fx ∧ nx ≤ 40) := fun q hq => by
        rcases (show q = 0 ∨ q = 1 by omega) with rfl | rfl
        · exact ⟨A0, n0, c0, L, F0, hkd.cell 0, HR0.out.below hbd, hn40⟩
        · exact ⟨Al, m, cl, _, F, hkd.cell 1, HR1.out.below hbd, by omega⟩
      have HBD := Lib.hid (HB1.out.trans (hbd.mono hz1))
      have hzd := HBD.out.size
      clear hkd hbd HR0 HR1
      go_loopw [35] (fun i wr => ∃ q : Nat, q ≤ 2 ∧ i = .int .i64 (q : Int) ∧ Below wd.heap.size wd wr) (fun i _ => 2 - (intOf i).toNat)
      case atStart => exact ⟨0, by omega, rfl, Below.refl _ _⟩
      case round =>
        obtain ⟨q, hq, rfl, hb⟩ := hrel
        obtain ⟨wo, rfl⟩ : ∃ wo : World, wo = wr := ⟨_, rfl⟩
        rcases Nat.lt_or_ge q 2 with hlt | hge
        · obtain ⟨Ax, nx, cx, Lx, Fx, hcx, hrx, hnx⟩ := HX.out q hlt
          have hcx := (hb.cell (p := ⟨w1.heap.size, q, none⟩) hdl).trans hcx
          have hrx := hrx.below hb
          have hlt' : (q : Int) < 2 := by omega
          have HRX := Lib.hid hrx
          have HBO := Lib.hid hb
          clear hb hrx
          go_wp2_with fail
          generalize hwe : World.alloc wo _ = we
          have hke : Blk we wo.heap.size 3 #[.int .i64 ik, .int .i64 ((at_ : Int) % ((nx : Int) + 2)), .int .i64 (-1), .int .i64 0, .int .i64 ((nx : Int) - 1)] := by rw [← hwe]; exact Blk.new wo _ _
          have hbe : Below wo.heap.size wo we := by rw [← hwe]; exact (Below.refl _ _).alloc (Nat.le_refl _) _
          have hel := hke.lt
          clear hwe
          have HK : Hid (∀ j, j < 5 → ∃ kv : Int, we.cell? ⟨wo.heap.size, j, none⟩ = some (.int .i64 kv)) := fun j hj => by
            rw [hke.cell]
            rcases (show j = 0 ∨ j = 1 ∨ j = 2 ∨ j = 3 ∨ j = 4 by omega) with rfl | rfl | rfl | rfl | rfl <;> exact ⟨_, rfl⟩
          have HRE := Lib.hid (HRX.out.below hbe)
          have hzo := HBO.out.size
          have HBE := Lib.hid (HBO.out.trans (hbe.mono hzo))
          clear hke hbe HRX
          go_loopw [51] (fun i wr => ∃ j : Nat, j ≤ 5 ∧ i = .int .i64 (j : Int) ∧ Below we.heap.size we wr) (fun i _ => 5 - (intOf i).toNat)
          case atStart => exact ⟨0, by omega, rfl, Below.refl _ _⟩
          case round =>
            obtain ⟨j, hj, rfl, hb⟩ := hrel
            rcases Nat.lt_or_ge j 5 with hlt5 | hge5
            · obtain ⟨kv, hkv⟩ := HK.out j hlt5
              have hkv := (hb.cell (p := ⟨wo.heap.size, j, none⟩) hel).trans hkv
              have hlt5' : (j : Int) < 5 := by omega
              have hp1 := mproof_or wr Ax nx cx Lx Fx kv (HRE.out.below hb) (by omega)
              have hp2 := fun W hW => rproof_or W Ax nx cx Lx Fx kv ((HRE.out.below hb).below hW) (by omega)
              have hpl := pathOr_len nx Lx Fx kv
              obtain ⟨⟨ps, bo⟩, hps⟩ : ∃ X, pathOr nx Lx Fx kv = X := ⟨_, rfl⟩
              rw [hps] at hp1 hpl
              simp only [hps] at hp2
              have hpl : ps.length ≤ nx := hpl
              have HP1 := Lib.hid hp1
              have HP2 := Lib.hid hp2
              have HB := Lib.hid hb
              have tb : (bo != bo) = false := by simp
              clear hp1 hp2 hps hb
              go_wp2_with fail
              refine HP1.out.mono ?_
              rintro e w6 ⟨A6, c6, rfl, hb6, hk6⟩
              have HB6 := Lib.hid (HB.out.trans (hb6.mono HB.out.size))
              have HP3 := Lib.hid (HP2.out w6 hb6)
              have HK6 := Lib.hid hk6
              clear hb6 hk6 HP1 HP2
              go_wp2_with fail
              refine HP3.out.mono ?_
              rintro e w7 ⟨A7, c7, rfl, hb7, hk7⟩
              have HB7 := Lib.hid (HB6.out.trans (hb7.mono HB6.out.size))
              have HK7 := Lib.hid hk7
              have HK6' := Lib.hid (HK6.out.below hb7)
              clear hb7 hk7 HP3
              go_wp2_with fail
              refine (sameKeys_any w7 A6 A7 ps.length c6 c7 ps HK6'.out HK7.out (by omega)).mono ?_
              rintro e w8 ⟨rfl, hb8⟩
              have HB8 := Lib.hid (HB7.out.trans (hb8.mono HB7.out.size))
              clear hb8
              go_wp2_with fail
              go_roundw
              case rel => exact ⟨j + 1, by omega, by go_num, HB8.out⟩
              case measure => simp [intOf]; omega
            · have hge5' : ¬ ((j : Int) < 5) := by omega
              have HB := Lib.hid (HBE.out.trans (hb.mono HBE.out.size))
              clear hb
              go_wp2_with fail
              go_roundw
              case rel => exact ⟨q + 1, by omega, by go_num, HB.out⟩
              case measure => simp [intOf]; omega
        · have hge' : ¬ ((q : Int) < 2) := by omega
          have HBO := Lib.hid hb
          have hzo := hb.size
          clear hb
          go_wp2_with fail
          refine (known_any _).mono ?_
          rintro e w5 ⟨rfl, hb5⟩
          have HB5 := Lib.hid (HBD.out.trans ((HBO.out.trans (hb5.mono hzo)).mono hzd))
          clear hb5
          go_wp2_with fail
          go_ret
          exact ⟨rfl, HB5.out⟩
end Go.Proofs.Ytlijjacnfdnhkaa
