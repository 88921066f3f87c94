/- The reference's Sha. -/
import Derived.Test.YtnhggaghidbniaaShaW6
namespace Go.Proofs.Ytnhggaghidbniaa
open Go.RowKit
set_option linter.unusedVariables false
open ShaW Sha

structure RS (w wr : World) : Prop where
  bel : Below w.heap.size w wr
  ret : wr.rowIs w.heap.size 23 32 (fun _ => .int .u8 0)
theorem RS.drew {w wr : World} (h : RS w wr) (n : Nat) : RS w (wr.drewN n) := ⟨below_drewN h.bel n, h.ret⟩
theorem RS.grown {w wr w' : World} {row : Option Nat} (h : RS w wr) (hg : wr.grownBy w' row) (hr : ∀ g, row = some g → w.heap.size + 1 ≤ g) : RS w w' := by
  refine ⟨h.bel.grown hg h.bel.size (fun g e => by have := hr g e; omega), h.ret.of_block (hg.block _ h.ret.lt ?_)⟩
  intro e; have := hr _ e.symm; omega
theorem RS.alloc {w wr : World} (h : RS w wr) (o : Obj) : RS w (wr.alloc o) := ⟨h.bel.alloc h.bel.size _, h.ret.alloc _⟩
theorem RS.below {w wr w' : World} (h : RS w wr) (hb : Below wr.heap.size wr w') : RS w w' :=
  ⟨h.bel.trans (hb.mono h.bel.size), h.ret.of_block (hb.block _ h.ret.lt)⟩
theorem RS.size {w wr : World} (h : RS w wr) : w.heap.size + 1 ≤ wr.heap.size := by have := h.ret.lt; omega

/-- the digest so far -/
def outTo (s : St) (k j : Nat) : UInt8 := if j < k then outByte s j else 0

set_option maxRecDepth 100000 in
set_option maxHeartbeats 4000000 in
theorem rsha_any (w : World) (A : Option Addr) (n c : Nat) (f : Nat → UInt8) (hr : Reads w w.heap.size 1 A n (bytesOf n f)) (hn : n ≤ 1099511627776) :
    Calls Try.prog 35 #[.slice A n c] w fun e w' => e = .returned (keyV (sha n f)) ∧ Below w.heap.size w w' := by
  obtain ⟨i0, hi0, hz0, hz1, hz2⟩ := info_parts u8_info
  obtain ⟨P, hP⟩ : ∃ P : Nat → UInt8, P = padF n f := ⟨_, rfl⟩
  obtain ⟨T, hT⟩ : ∃ T, T = padLen n := ⟨_, rfl⟩
  have hpl := padLen_ge n
  have hTr : n + 9 ≤ T ∧ T % 64 = 0 ∧ T < n + 73 := by omega
  have hbytes : bytesOf n f = bytesOf n P := by
    refine bytesOf_congr (fun j hj => ?_)
    rw [hP]
    show _ = padF n f _
    unfold padF
    rw [if_pos (by omega)]
  rw [hbytes] at hr
  have hP0 : P n = 128 := by
    rw [hP]
    show padF n f _ = _
    unfold padF
    rw [if_neg (by omega), if_pos (by omega)]
  have hRD : ∀ w1, Below w.heap.size w w1 → Reads w1 w.heap.size 1 A n (bytesOf n P) := fun w1 h1 => hr.below h1
  have HRD := Lib.hid hRD
  have HP0 := Lib.hid hP0
  have HT := Lib.hid hT
  have HPe := Lib.hid hP
  clear hRD hr hP0 hbytes hT hP
  have hown0 : ∀ o : Obj, ((w.alloc o).alloc (.cells #[] 5)).ownsRow (w.heap.size + 1) 5 1 (.slice (some ⟨w.heap.size + 1, 0, none⟩) 0 0) 0 [] := by
    intro o
    have h := World.ownsRow_lit (base := w.heap.size + 1) (e := 5) (size := 1) (w.alloc o) #[] 0 (by simp) (by unfold maxLen; omega) rfl
    rw [show (w.alloc o).heap.size = w.heap.size + 1 by simp] at h
    exact h
  go_enter Try.func35, Try.ntmps35
  go_wp2_with (first
    | (at_builtin
       refine wpList_append_any _ rfl (.tmp 10) (.tmp 11) _ rfl (w.heap.size + 1) 5 i0 _ 1 1 Try.underlying33 hi0 hz0 hz1 hz2 rfl (by omega) _ 0 [] rfl
         (hown0 _) w.heap.size A n c _ rfl (HRD.out _ (((Below.refl _ _).alloc (Nat.le_refl _) _).alloc (by simp) _)) (bytesOf_one _ _) (by unfold maxLen; omega) (by omega) (by simp) ?_
       intro v1 w1 hown1 hg1 hat1)
    | (at_builtin
       refine app_own rfl (.tmp 12) (.tmp 13) _ rfl (w.heap.size + 1) 5 i0 _ 1 1 Try.underlying33 hi0 hz0 hz1 hz2 rfl (by omega) v1 (0 + n) _ rfl
         hown1 [.int .u8 128] _ rfl rfl (by simp [Value.oneCell']) (by omega) (by omega) (by have := hg1.size; simp at this; omega) ?_
       intro v2 w2 hown2 hg2))
  have hown : w2.ownsRow (w.heap.size + 1) 5 1 v2 (n + 1) (bytesOf (n + 1) P) := by
    rw [bytesOf_snoc, HP0.out]
    rw [Nat.zero_add, List.nil_append] at hown2
    exact hown2
  have hRS : RS w w2 := by
    have h0 : ∀ o, RS w ((w.alloc (.cells (Array.replicate 32 (.int .u8 0)) 23)).alloc o) := fun o => ⟨((Below.refl _ _).alloc (Nat.le_refl _) _).alloc (by simp) _, (zero_row w 23 _ rfl _ rfl).alloc _⟩
    exact ((h0 _).grown hg1 (fun g e => by have := Option.some.inj (show some (w.heap.size + 1) = some g from e); omega)).grown hg2 (fun g e => (hown1.lt g e).1)
  have HW := Lib.hid hown
  have HSM := Lib.hid hRS
  clear hown hRS hown1 hown2 hg1 hg2 hat1 hown0
  go_loopw [3] (fun i wr => ∃ l, n + 1 ≤ l ∧ l ≤ T - 8 ∧ wr.ownsRow (w.heap.size + 1) 5 1 i l (bytesOf l P) ∧ RS w wr) (fun i _ => T - sliceLen i)
  case atStart => exact ⟨n + 1, by omega, by omega, HW.out, HSM.out⟩
  case round =>
    obtain ⟨l, hl1, hl2, hw, hs⟩ := hrel
    obtain ⟨A2, g2, c2, rfl, _⟩ := own_bytes hw
    clear HW HSM
    have hsz := hs.size
    have HW := Lib.hid hw
    have HS := Lib.hid hs
    clear hw hs
    by_cases hlt : l = T - 8
    · have ht : ((l : Nat) : Int) % 64 = 56 := by omega
      have hnn : (0 : Int) ≤ l := by omega
      have HQ := Lib.hid hlt
      clear hlt
      have q8 : IntKind.u64.wrap (n : Int) = (n : Int) := by rw [IntKind.wrap_u64]; omega
      have q9 : IntKind.u64.wrap ((n : Int) * 8) = (n : Int) * 8 := by rw [IntKind.wrap_u64]; omega
      go_wp2_with fail
      obtain ⟨wo, rfl⟩ : ∃ wo : World, wo = wr := ⟨_, rfl⟩
      clear ht hnn q8 q9
      go_loopw [3, 5] (fun i j wr => ∃ k : Nat, k ≤ 8 ∧ j = .int .i64 (7 - (k : Int)) ∧ wr.ownsRow (w.heap.size + 1) 5 1 i (T - 8 + k) (bytesOf (T - 8 + k) P) ∧ RS w wr) (fun _ j _ => (intOf j + 1).toNat)
      case atStart =>
        refine ⟨0, by omega, rfl, ?_, HS.out⟩
        have := HW.out
        rw [HQ.out] at this
        have e := HQ.out
        rw [e]
        exact this
      case round =>
        obtain ⟨k, hk, rfl, hw, hs⟩ := hrel
        obtain ⟨A3, g3, c3, rfl, hA3, hc3, hcm3, hcell3⟩ := own_bytes hw
        have HA3 := Lib.hid hA3
        have HC3 := Lib.hid hcell3
        clear hA3 hcell3
        clear HW HS
        have hsz2 := hs.size
        have HW := Lib.hid hw
        have HS := Lib.hid hs
        clear hw hs
        by_cases hlt : k < 8
        · have hge : (0 : Int) ≤ 8 * (7 - (k : Int)) := by omega
          have hge2 : ((k : Int)) ≤ 7 := by omega
          have htn : (8 * (7 - (k : Int))).toNat = 8 * (7 - k) := by omega
          go_wp2_with (first
            | (at_builtin
               refine app_own rfl (.tmp 30) (.tmp 36) _ rfl (w.heap.size + 1) 5 i0 _ 1 1 Try.underlying33 hi0 hz0 hz1 hz2 rfl (by omega) _ (T - 8 + k) _ rfl
                 HW.out [_] _ rfl rfl (by simp [Value.oneCell']) (by omega) (by omega) hsz2 ?_
               intro v4 w4 hown4 hg4))
          have hval : ((n : Int) * 8 / 2 ^ (8 * (7 - k))) % 256 = ((P (T - 8 + k)).toNat : Int) := by
            have e1 : P (T - 8 + k) = lenByte n k := by
              have hT := HT.out
              rw [HPe.out]
              show padF n f _ = _
              unfold padF
              rw [if_neg (by omega), if_neg (by omega), if_neg (by omega)]
              congr 1
              omega
            rw [e1]
            unfold lenByte
            rw [UInt8.toNat_ofNat', Nat.mod_eq_of_lt (a := n * 8) (by omega)]
            push_cast
            rfl
          have hown5 : w4.ownsRow (w.heap.size + 1) 5 1 v4 (T - 8 + (k + 1)) (bytesOf (T - 8 + (k + 1)) P) := by
            rw [← Nat.add_assoc, bytesOf_snoc, ← hval]; exact hown4
          go_roundw
          case rel => exact ⟨k + 1, by omega, by congr 1; omega, hown5, HS.out.grown hg4 (fun g e => (HW.out.lt g e).1)⟩
          case measure => simp [intOf]; omega
        · obtain rfl : k = 8 := by omega
          clear hlt
          rw [show (7 - ((8 : Nat) : Int)) = -1 from rfl]
          go_wp2_with fail
          obtain ⟨wo2, rfl⟩ : ∃ wo : World, wo = wr := ⟨_, rfl⟩
          have e88 : T - 8 + 8 = T := by omega
          rw [e88]
          clear e88
          have ha := HA3.out (by omega)
          obtain ⟨rfl, ha1, ha2, _⟩ := ha
          clear HA3
          go_loopw [7] (fun i wr => ∃ k : Nat, i = .int .i64 (64 * (k : Int)) ∧ 64 * k ≤ T ∧ RS w wr ∧ Hid (∀ j, j < T → wr.cell? ⟨g3, 0 + j, none⟩ = some (.int .u8 ((P j).toNat : Int))) ∧ Blk wr wo2.heap.size 90 (stCells (blocks begin0 (padF n f) k))) (fun i _ => T - (intOf i).toNat)
          case atStart =>
            refine ⟨0, rfl, by omega, HS.out.alloc _, ?_, Blk.new _ _ _⟩
            intro j hj
            exact (World.cell?_alloc_lt _ _ _ ha2).trans (HC3.out j (by omega))
          case round =>
            obtain ⟨k, rfl, hk, hs, hcell, hb⟩ := hrel
            have HSR := Lib.hid hs
            clear HW HS HC3
            by_cases hlt : 64 * k < T
            · skip
              have hT64 : 64 * k + 64 ≤ T := by omega
              obtain ⟨sa, sb, sc, sd, se, sf, sg, sh, hst⟩ : ∃ sa sb sc sd se sf sg sh, blocks begin0 (padF n f) k = ⟨sa, sb, sc, sd, se, sf, sg, sh⟩ := ⟨_, _, _, _, _, _, _, _, rfl⟩
              have HS3 : Hid (blocks begin0 (padF n f) (k + 1) = block ⟨sa, sb, sc, sd, se, sf, sg, sh⟩ (fun j => P (64 * k + j))) := by
                show _ = _
                rw [← hst, HPe.out]
                rfl
              rw [hst] at hb
              clear hst
              have x0 : wr.cell? ⟨wo2.heap.size, 0, none⟩ = some (.int .u32 sa.toNat) := hb.cell 0
              have x1 : wr.cell? ⟨wo2.heap.size, 1, none⟩ = some (.int .u32 sb.toNat) := hb.cell 1
              have x2 : wr.cell? ⟨wo2.heap.size, 2, none⟩ = some (.int .u32 sc.toNat) := hb.cell 2
              have x3 : wr.cell? ⟨wo2.heap.size, 3, none⟩ = some (.int .u32 sd.toNat) := hb.cell 3
              have x4 : wr.cell? ⟨wo2.heap.size, 4, none⟩ = some (.int .u32 se.toNat) := hb.cell 4
              have x5 : wr.cell? ⟨wo2.heap.size, 5, none⟩ = some (.int .u32 sf.toNat) := hb.cell 5
              have x6 : wr.cell? ⟨wo2.heap.size, 6, none⟩ = some (.int .u32 sg.toNat) := hb.cell 6
              have x7 : wr.cell? ⟨wo2.heap.size, 7, none⟩ = some (.int .u32 sh.toNat) := hb.cell 7
              have HCALL := fun w1 (hw1 : Below wr.heap.size wr w1) => rblock_any ⟨sa, sb, sc, sd, se, sf, sg, sh⟩ g3 (64 * k) (c3 - 64 * k) (fun j => P (64 * k + j)) w1 (fun j hj => by
                have h := hcell.out (64 * k + j) (by omega)
                rw [Nat.zero_add] at h
                exact (hw1.cell (p := ⟨g3, 64 * k + j, none⟩) (World.block_lt_of_cell? wr _ h)).trans h)
              have HCL := Lib.hid HCALL
              have hST : ∀ w2, Below wr.heap.size wr w2 → w2.cell? ⟨wo2.heap.size, 0, none⟩ = some (.int .u32 sa.toNat) ∧ w2.frozen? ⟨wo2.heap.size, 0, none⟩ = false ∧ w2.cell? ⟨wo2.heap.size, 1, none⟩ = some (.int .u32 sb.toNat) ∧ w2.frozen? ⟨wo2.heap.size, 1, none⟩ = false ∧ w2.cell? ⟨wo2.heap.size, 2, none⟩ = some (.int .u32 sc.toNat) ∧ w2.frozen? ⟨wo2.heap.size, 2, none⟩ = false ∧ w2.cell? ⟨wo2.heap.size, 3, none⟩ = some (.int .u32 sd.toNat) ∧ w2.frozen? ⟨wo2.heap.size, 3, none⟩ = false ∧ w2.cell? ⟨wo2.heap.size, 4, none⟩ = some (.int .u32 se.toNat) ∧ w2.frozen? ⟨wo2.heap.size, 4, none⟩ = false ∧ w2.cell? ⟨wo2.heap.size, 5, none⟩ = some (.int .u32 sf.toNat) ∧ w2.frozen? ⟨wo2.heap.size, 5, none⟩ = false ∧ w2.cell? ⟨wo2.heap.size, 6, none⟩ = some (.int .u32 sg.toNat) ∧ w2.frozen? ⟨wo2.heap.size, 6, none⟩ = false ∧ w2.cell? ⟨wo2.heap.size, 7, none⟩ = some (.int .u32 sh.toNat) ∧ w2.frozen? ⟨wo2.heap.size, 7, none⟩ = false := by
                intro w2 hb2
                have hk2 := hb.below hb2 hb.lt
                exact ⟨hk2.cell 0, hk2.frozen 0, hk2.cell 1, hk2.frozen 1, hk2.cell 2, hk2.frozen 2, hk2.cell 3, hk2.frozen 3, hk2.cell 4, hk2.frozen 4, hk2.cell 5, hk2.frozen 5, hk2.cell 6, hk2.frozen 6, hk2.cell 7, hk2.frozen 7⟩
              have HST := Lib.hid hST
              have HBK := Lib.hid hb
              clear hST HCALL hb hs
              have q0 : IntKind.i64.wrap (64 * (k : Int) + 64) = 64 * (k : Int) + 64 := IntWalk.i64_in _ (by omega)
              have q1 : (64 * (k : Int)).toNat = 64 * k := by omega
              have q2 : (64 * (k : Int) + 64).toNat = 64 * k + 64 := by omega
              have q3 : 0 ≤ 64 * (k : Int) := by omega
              have q4 : 64 * (k : Int) + 64 ≤ c3 := by omega
              have q5 : c3 ≠ 64 * k := by omega
              have q6 : 64 * k + 64 - 64 * k = 64 := by omega
              have q7 : 64 * (k : Int) ≤ 64 * (k : Int) + 64 := by omega
              have q8 : 64 * (k : Int) < T := by omega
              go_wp2_with (fail)
              go_region_law (first | (go_simp; go_at_call 50; refine (HCL.out _ (below_drewN (Below.refl _ _) _)).mono ?_; rintro e w2 ⟨rfl, hb2⟩; obtain ⟨z0, y0, z1, y1, z2, y2, z3, y3, z4, y4, z5, y5, z6, y6, z7, y7⟩ := HST.out w2 (below_of_drewN hb2)))
              go_wp2_with (fail)
              have hb2' := below_of_drewN hb2
              have hWg := set8_grown w2 wo2.heap.size (block ⟨sa, sb, sc, sd, se, sf, sg, sh⟩ (fun j => P (64 * k + j)))
              have hWb := set8_stblk (HBK.out.below hb2' HBK.out.lt) (block ⟨sa, sb, sc, sd, se, sf, sg, sh⟩ (fun j => P (64 * k + j)))
              clear q0 q1 q2 q3 q4 q5 q6 q7 q8
              go_roundw
              case rel =>
                refine ⟨k + 1, by congr 1, by omega, ?_, ?_, by rw [HS3.out]; exact hWb⟩
                · refine (HSR.out.below hb2').grown hWg (fun g e => ?_)
                  injection e with e
                  omega
                · intro j hj
                  have hc0 := hcell.out j hj
                  have hlt0 := World.block_lt_of_cell? wr _ hc0
                  have hne : some g3 ≠ some wo2.heap.size := by simp; omega
                  have e1 := hWg.block g3 (Nat.lt_of_lt_of_le hlt0 hb2'.size) hne
                  have e2 := hb2'.block g3 hlt0
                  exact (far_cell e1).trans ((far_cell e2).trans hc0)
              case measure => simp [intOf]; omega
            · have hkT : 64 * k = T := by omega
              obtain ⟨S, hS⟩ : ∃ S, blocks begin0 (padF n f) k = S := ⟨_, rfl⟩
              have HSS : Hid (sha n f = outByte S) := by
                have hT := HT.out
                show _ = _
                rw [← hS]
                funext i
                show outByte (blocks begin0 (padF n f) (padLen n / 64)) i = _
                rw [show padLen n / 64 = k by omega]
              rw [hS] at hb
              clear hS hlt hcell hs
              have HBK := Lib.hid hb
              clear hb
              have hge : ¬ (64 * (k : Int)) < T := by omega
              go_wp2_with fail
              obtain ⟨wo3, rfl⟩ : ∃ wo : World, wo = wr := ⟨_, rfl⟩
              clear hge
              go_loopw [52] (fun i wr => ∃ k : Nat, k ≤ 32 ∧ i = .int .i64 k ∧ RS w wr ∧ Blk wr wo2.heap.size 90 (stCells S) ∧ wr.rowIs wo3.heap.size 23 32 (fun i => .int .u8 ((outTo S k i).toNat : Int))) (fun i _ => (32 - intOf i).toNat)
              case atStart => exact ⟨0, by omega, rfl, HSR.out.alloc _, HBK.out.alloc _, zero_row _ 23 _ rfl _ rfl⟩
              case round =>
                obtain ⟨k2, hk2, rfl, hM, hB, hO⟩ := hrel
                have hsz3 := HSR.out.size
                have hbl := HBK.out.lt
                clear HSR HBK
                by_cases hlt : k2 < 32
                · have y0 : wr.cell? ⟨wo2.heap.size, k2 / 4, none⟩ = some (.int .u32 (wordOf S (k2 / 4)).toNat) := by
                    rw [hB.cell]
                    have : k2 / 4 = 0 ∨ k2 / 4 = 1 ∨ k2 / 4 = 2 ∨ k2 / 4 = 3 ∨ k2 / 4 = 4 ∨ k2 / 4 = 5 ∨ k2 / 4 = 6 ∨ k2 / 4 = 7 := by omega
                    rcases this with e | e | e | e | e | e | e | e <;> rw [e] <;> rfl
                  have y1 : wr.cell? ⟨wo3.heap.size, k2, none⟩ = some (.int .u8 _) := hO.cell (i := k2) hlt
                  have y2 : wr.frozen? ⟨wo3.heap.size, k2, none⟩ = false := hO.frozen k2
                  obtain ⟨x, hx⟩ : ∃ x, wordOf S (k2 / 4) = x := ⟨_, rfl⟩
                  rw [hx] at y0
                  have HXX := Lib.hid hx
                  clear hx
                  have HM := Lib.hid hM
                  have HB := Lib.hid hB
                  have HO := Lib.hid hO
                  clear hM hB hO
                  have e1 : ((k2 : Int) / 4).toNat = k2 / 4 := by omega
                  have e2 : (24 - (k2 : Int) % 4 * 8).toNat = 24 - k2 % 4 * 8 := by omega
                  have e3 : 0 ≤ (k2 : Int) / 4 := by omega
                  have e4 : (k2 : Int) / 4 < 8 := by omega
                  have e5 : 0 ≤ 24 - (k2 : Int) % 4 * 8 := by omega
                  go_wp2_with fail
                  have hval : ((x.toNat : Int) / 2 ^ (24 - k2 % 4 * 8)) % 256 = ((outByte S k2).toNat : Int) := by
                    unfold outByte
                    rw [HXX.out, UInt8.toNat_ofNat']
                    generalize 24 - k2 % 4 * 8 = q
                    generalize x.toNat = y
                    rw [Int.natCast_emod, Int.natCast_ediv, Int.natCast_pow]
                    rfl
                  clear e1 e2 e3 e4 e5
                  go_roundw
                  case rel =>
                    refine ⟨k2 + 1, by omega, by go_num, HM.out.grown (only_setCell (World.grownBy.refl wr (some wo3.heap.size)) (p := ⟨wo3.heap.size, k2, none⟩) (.inl rfl) _) (fun g e => ?_), HB.out.far (by simp; omega) _, ?_⟩
                    · injection e with e
                      omega
                    · rw [hval]
                      refine (HO.out.set k2 _).congr ?_
                      intro j hj
                      show (if j = k2 then _ else _) = _
                      unfold outTo
                      by_cases h1 : j = k2
                      · subst h1; rw [if_pos rfl, if_pos (by omega)]
                      · rw [if_neg h1]
                        by_cases h2 : j < k2
                        · rw [if_pos h2, if_pos (by omega)]
                        · rw [if_neg h2, if_neg (by omega)]
                  case measure => simp [intOf]; omega
                · obtain rfl : k2 = 32 := by omega
                  rw [show ((32 : Nat) : Int) = 32 from rfl]
                  have hko := key_heap hO
                  have hkr : ∃ old, wr.heap[w.heap.size]? = some (.cells old 23 (0, 0)) ∧ old.size = 32 := by
                    obtain ⟨cs, h1, h2, _⟩ := hM.ret
                    exact ⟨cs, h1, h2⟩
                  obtain ⟨old, hkr, hold⟩ := hkr
                  have HM := Lib.hid hM
                  have HKO := Lib.hid hko
                  have HKR := Lib.hid hkr
                  obtain ⟨ks, hks⟩ : ∃ ks, (bytesOf 32 (outTo S 32)).toArray = ks := ⟨_, rfl⟩
                  have hks1 : ks.size = 32 := by rw [← hks]; simp only [List.size_toArray]; exact bytesOf_length _ _
                  have hks2 : ks.all (·.oneCell') = true := by
                    rw [← hks]
                    exact all_one _ (bytesOf_one _ _)
                  rw [hks] at HKO
                  have HKS := Lib.hid hks
                  clear hM hko hkr hks hB hO
                  go_wp2_with (first
                    | (refine wpList_load_row rfl 23 (.tmp 8) rfl wo3.heap.size rfl _ ks (0, 0) _ HKO.out Try.underlying23 rfl (by rw [hks1]; kernel_rfl) ?_)
                    | (refine wpList_store_rowTo rfl 23 (.tmp 2) (.tmp 68) rfl rfl w.heap.size ks rfl rfl _ _ HKR.out (by rw [hks1]; kernel_rfl) (by rw [hks1, hold]) hks2 ?_))
                  refine bodyPost_ret (results_cell_row rfl _ _ w.heap.size _ ks (0, 0) _ rfl (setRow_same _ _ _ _ _ HKR.out) Try.underlying23 rfl (by rw [hks1]; kernel_rfl)) rfl ⟨?_, ?_⟩
                  · rw [← HKS.out]
                    show Ending.returned (.agg _) = Ending.returned (.agg _)
                    rw [HSS.out, bytesOf_congr (f := outTo _ 32) (g := outByte _) (fun j hj => if_pos (by omega))]
                  · exact below_setRow HM.out.bel (Nat.le_refl _) _
    · have ht : ((((l : Nat) : Int) % 64) != 56) = true := bne_iff_ne.mpr (by omega)
      have hnn : (0 : Int) ≤ l := by omega
      have HQ := Lib.hid hlt
      clear hlt
      go_wp2_with (first
        | (at_builtin
           refine app_own rfl (.tmp 19) (.tmp 20) _ rfl (w.heap.size + 1) 5 i0 _ 1 1 Try.underlying33 hi0 hz0 hz1 hz2 rfl (by omega) _ l _ rfl
             HW.out [.int .u8 0] _ rfl rfl (by simp [Value.oneCell']) (by omega) (by omega) hsz ?_
           intro v3 w3 hown3 hg3))
      have hPl : P l = 0 := by
        have hT := HT.out
        rw [HPe.out]
        show padF n f _ = _
        unfold padF
        have := HQ.out
        rw [if_neg (by omega), if_neg (by omega), if_pos (by omega)]
      have hown4 : w3.ownsRow (w.heap.size + 1) 5 1 v3 (l + 1) (bytesOf (l + 1) P) := by
        rw [bytesOf_snoc, hPl]; exact hown3
      obtain ⟨A5, g5, c5, rfl, _⟩ := own_bytes hown4
      have hlq := HQ.out
      go_roundw
      case rel => exact ⟨l + 1, by omega, by omega, hown4, HS.out.grown hg3 (fun g e => (HW.out.lt g e).1)⟩
      case measure => simp [sliceLen]; omega
end Go.Proofs.Ytnhggaghidbniaa
