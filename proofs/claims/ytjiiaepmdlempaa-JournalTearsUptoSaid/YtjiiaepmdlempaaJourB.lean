/- Clone, Grow, Concat at bytes. -/
import Derived.Test.YtjiiaepmdlempaaJourA
namespace Go.Proofs.Ytjiiaepmdlempaa
open Go.RowKit
set_option linter.unusedVariables false
open ShaW Sha

theorem lit_owns (w : World) (e : TypeId) : (w.alloc (.cells #[] e)).ownsRow w.heap.size e 1 (.slice (some ⟨w.heap.size, 0, none⟩) 0 0) 0 [] :=
  World.ownsRow_lit (base := w.heap.size) (e := e) (size := 1) w #[] 0 (by simp) (by unfold maxLen; omega) rfl

set_option maxRecDepth 100000 in
theorem clone_any (w : World) (A : Option Addr) (n c : Nat) (f : Nat → UInt8) (hr : Reads w w.heap.size 1 A n (bytesOf n f)) (hn : n ≤ 1099511627776) :
    Calls Try.prog 22 #[.slice A n c] w fun e w' => ∃ A' c', e = .returned (.slice A' n c') ∧ Below w.heap.size w w' ∧ w'.ownsRow w.heap.size 5 1 (.slice A' n c') n (bytesOf n f) := by
  obtain ⟨i0, hi0, hz0, hz1, hz2⟩ := info_parts u8_info
  rcases A with _ | a
  · have hn0 : n = 0 := by
      rcases Nat.eq_zero_or_pos n with h | h
      · exact h
      · obtain ⟨ad, _, h1, _⟩ := hr.at_ h
        cases h1
    subst hn0
    have hnil : ∀ w, (binOp .eql 22 (.slice none 0 c) (.slice none 0 0)).run Try.prog w = .ok (.bool true) w := fun _ => by kernel_rfl
    go_enter Try.func22, Try.ntmps22
    go_wp2_with fail
    go_ret
    exact ⟨none, 0, rfl, Below.refl _ _, World.ownsRow_nil _ _ _ _⟩
  · have HO := Lib.hid (lit_owns w 5)
    have HR := Lib.hid (hr.alloc (Nat.le_refl _) (.cells #[] 5))
    clear hr
    have hnil : ∀ w, (binOp .eql 22 (.slice (some a) n c) (.slice none 0 0)).run Try.prog w = .ok (.bool false) w := fun _ => by kernel_rfl
    go_enter Try.func22, Try.ntmps22
    go_wp2_with (first
      | (at_builtin
         refine wpList_append_any _ rfl (.tmp 5) (.tmp 6) _ rfl w.heap.size 5 i0 _ 1 1 Try.underlying22 hi0 hz0 hz1 hz2 rfl (by omega) _ 0 [] rfl
           HO.out w.heap.size (some a) n c _ rfl HR.out (bytesOf_one _ _) (by unfold maxLen; omega) (by omega) (by simp) ?_
         intro v1 w1 hown1 hg1 hat1
         rw [Nat.zero_add, List.nil_append] at hown1
         have hb1 : Below w.heap.size w w1 := ((Below.refl _ _).alloc (Nat.le_refl _) _).grown hg1 (by rw [World.size_alloc]; omega) (fun g e => by have := Option.some.inj (show some w.heap.size = some g from e); omega)
         obtain ⟨A1, g1, c1, rfl, _⟩ := own_bytes hown1
         have HO1 := Lib.hid hown1
         have HB1 := Lib.hid hb1
         clear hown1 hg1 hat1 hb1))
    go_ret
    exact ⟨_, _, rfl, HB1.out, HO1.out⟩

set_option maxRecDepth 100000 in
theorem grow_any (w : World) (n : Nat) (h0 : 0 < n) (hn : n ≤ 1099511627776) :
    Calls Try.prog 27 #[.slice none 0 0, .int .i64 (n : Int)] w fun e w' => ∃ A' c', e = .returned (.slice A' 0 c') ∧ Below w.heap.size w w' ∧ w'.ownsRow w.heap.size 5 1 (.slice A' 0 c') 0 [] := by
  obtain ⟨i0, hi0, hz0, hz1, hz2⟩ := info_parts u8_info
  have hni : (0 : Int) < n := by omega
  have hra := fun w => Lib.run_append_nil_zeros (P := Try.prog) w 22 3 22 5 i0 _ .i64 .i64 Try.underlying22 Try.underlying3 hi0 hz0 n h0 (by omega) (by omega) (by rw [hz2]; omega)
  have HRA := Lib.hid hra
  clear hra
  go_enter Try.func27, Try.ntmps27
  go_wp2_with (first
    | (at_builtin
       refine Lib.wpList_append_run _ rfl (.tmp 20) (.tmp 21) _ _ rfl _ _ rfl rfl _ _ (HRA.out _) ?_
       ))
  have hge := grownCap_ge w n 0 5
  have hle := grownCap_le_maxLen w n 0 5 (by unfold maxLen; omega)
  generalize grownCap w n 0 5 = C at hge hle
  refine bodyPost_ret (results_tmp rfl _ _ _) rfl ⟨_, _, rfl, belowDrew ((Below.refl _ _).alloc (Nat.le_refl _) _), by simp, .inr ⟨w.heap.size, C, _, rfl, Nat.le_refl _, (heap_alloc_new w _), by omega, hle, ?_, by simp⟩⟩
  rw [Array.size_append, size_zeroCells, size_zeroCells]
  simp only [List.size_toArray, List.length_singleton]
  omega

/-- rows one behind another -/
def catLen (L : Nat → Nat) : Nat → Nat
  | 0 => 0
  | k + 1 => catLen L k + L k
def catF (L : Nat → Nat) (F : Nat → Nat → UInt8) : Nat → Nat → UInt8
  | 0 => fun _ => 0
  | k + 1 => glue (catLen L k) (catF L F k) (F k)
theorem catLen_mono (L : Nat → Nat) {i k : Nat} (h : i ≤ k) : catLen L i ≤ catLen L k := by
  induction k with
  | zero => obtain rfl : i = 0 := by omega
            exact Nat.le_refl _
  | succ k ih =>
    by_cases h' : i = k + 1
    · rw [h']; exact Nat.le_refl _
    · have := ih (by omega)
      simp only [catLen]; omega

set_option maxRecDepth 100000 in
set_option maxHeartbeats 1000000 in
theorem concat_any (w : World) (b o cnt c : Nat) (A : Nat → Option Addr) (L C : Nat → Nat) (F : Nat → Nat → UInt8) (hcn : cnt ≤ 1048576)
    (hrow : ∀ r, r < cnt → w.cell? ⟨b, o + r, none⟩ = some (.slice (A r) (L r) (C r)) ∧ Reads w w.heap.size 1 (A r) (L r) (bytesOf (L r) (F r))) (h0 : 0 < catLen L cnt) (hT : catLen L cnt ≤ 1099511627776) :
    Calls Try.prog 19 #[.slice (some ⟨b, o, none⟩) cnt c] w fun e w' => ∃ A' c', e = .returned (.slice A' (catLen L cnt) c') ∧ Below w.heap.size w w' ∧ w'.ownsRow w.heap.size 5 1 (.slice A' (catLen L cnt) c') (catLen L cnt) (bytesOf (catLen L cnt) (catF L F cnt)) := by
  obtain ⟨i0, hi0, hz0, hz1, hz2⟩ := info_parts u8_info
  have HROW := Lib.hid hrow
  have hbl : 0 < cnt → b < w.heap.size := fun h => World.block_lt_of_cell? w _ (hrow 0 h).1
  have HBL := Lib.hid hbl
  clear hrow hbl
  go_enter Try.func19, Try.ntmps19
  go_wp2_with fail
  go_loopw [3, 11] (fun s i wr => ∃ k : Nat, k ≤ cnt ∧ s = .int .i64 (catLen L k : Int) ∧ i = .int .i64 (k : Int) ∧ w = wr) (fun _ i _ => cnt - (intOf i).toNat)
  case atStart => exact ⟨0, by omega, rfl, rfl, rfl⟩
  case round =>
    obtain ⟨k, hk, rfl, rfl, rfl⟩ := hrel
    by_cases hlt : k < cnt
    · have y0 := (HROW.out k hlt).1
      have hm := catLen_mono L (show k + 1 ≤ cnt by omega)
      simp only [catLen] at hm
      obtain ⟨s, hs⟩ : ∃ s, catLen L k = s := ⟨_, rfl⟩
      obtain ⟨l, hl⟩ : ∃ l, L k = l := ⟨_, rfl⟩
      obtain ⟨Ak, hAk⟩ : ∃ l, A k = l := ⟨_, rfl⟩
      obtain ⟨Ck, hCk⟩ : ∃ l, C k = l := ⟨_, rfl⟩
      have HS := Lib.hid hs
      have HL := Lib.hid hl
      rw [hs, hl] at hm
      rw [hl, hAk, hCk] at y0
      rw [hs]
      clear hs hl hAk hCk
      have hki : (k : Int) < cnt := by omega
      go_wp2_with fail
      go_roundw
      case rel => exact ⟨k + 1, by omega, by simp only [catLen]; rw [HS.out, HL.out]; go_num, by go_num, trivial⟩
      case measure => simp [intOf]; omega
    · obtain rfl : k = cnt := by omega
      clear hlt
      obtain ⟨T, hTT⟩ : ∃ T, catLen L k = T := ⟨_, rfl⟩
      rw [hTT] at h0 hT ⊢
      have HTT := Lib.hid hTT
      clear hTT
      go_wp2_with fail
      refine (grow_any _ T h0 hT).mono ?_
      rintro e w1 ⟨A1, c1, rfl, hb1, ho1⟩
      have HB1 := Lib.hid hb1
      have HO1 := Lib.hid ho1
      clear hb1 ho1
      go_wp2_with fail
      go_loopw [6, 27] (fun v i wr => ∃ q : Nat, q ≤ k ∧ i = .int .i64 (q : Int) ∧ Below w.heap.size w wr ∧ wr.ownsRow w.heap.size 5 1 v (catLen L q) (bytesOf (catLen L q) (catF L F q))) (fun _ i _ => k - (intOf i).toNat)
      case atStart => exact ⟨0, by omega, rfl, HB1.out, HO1.out⟩
      case round =>
        obtain ⟨q, hq, rfl, hb, ho⟩ := hrel
        obtain ⟨A2, g2, c2, rfl, _⟩ := own_bytes ho
        clear HB1 HO1
        have HB := Lib.hid hb
        have HO := Lib.hid ho
        by_cases hlt : q < k
        · have hz := hb.size
          have y0 : wr.cell? ⟨b, o + q, none⟩ = some (.slice (A q) (L q) (C q)) := (hb.cell (p := ⟨b, o + q, none⟩) (HBL.out (by omega))).trans (HROW.out q hlt).1
          have hrd := (HROW.out q hlt).2.below hb
          have hm := catLen_mono L (show q + 1 ≤ k by omega)
          simp only [catLen] at hm
          rw [HTT.out] at hm
          have HRD := Lib.hid hrd
          obtain ⟨s, hs⟩ : ∃ s, catLen L q = s := ⟨_, rfl⟩
          obtain ⟨l, hl⟩ : ∃ l, L q = l := ⟨_, rfl⟩
          obtain ⟨Ak, hAk⟩ : ∃ l, A q = l := ⟨_, rfl⟩
          obtain ⟨Ck, hCk⟩ : ∃ l, C q = l := ⟨_, rfl⟩
          rw [hs] at HO hm ⊢
          rw [hl, hAk] at HRD
          rw [hl] at hm
          rw [hl, hAk, hCk] at y0
          have HS := Lib.hid hs
          have HL := Lib.hid hl
          clear hb ho hrd hs hl hAk hCk
          have hki : (q : Int) < k := by omega
          go_wp2_with (first
            | (at_builtin
               refine wpList_append_any _ rfl (.tmp 31) (.tmp 32) _ rfl w.heap.size 5 i0 _ 1 1 Try.underlying22 hi0 hz0 hz1 hz2 rfl (by omega) _ s _ rfl
                 HO.out w.heap.size Ak l Ck _ rfl HRD.out (bytesOf_one _ _) (by unfold maxLen; omega) (by omega) hz ?_
               intro v3 w3 hown3 hg3 hat3
               rw [bytesOf_glue] at hown3
               have hb3 : Below w.heap.size w w3 := HB.out.grown hg3 hz (fun g e => (HO.out.lt g e).1)
               obtain ⟨A3, g3, c3, rfl, _⟩ := own_bytes hown3
               have HO3 := Lib.hid hown3
               have HB3 := Lib.hid hb3
               clear hown3 hg3 hat3 hb3))
          go_roundw
          case rel =>
            refine ⟨q + 1, by omega, by go_num, HB3.out, ?_⟩
            simp only [catLen, catF]
            rw [HS.out, HL.out]
            exact HO3.out
          case measure => simp [intOf]; omega
        · obtain rfl : q = k := by omega
          have hT2 := HTT.out
          rw [hT2]
          clear hb ho hlt
          go_wp2_with fail
          go_ret
          subst hT2
          exact ⟨_, _, rfl, HB.out, HO.out⟩
end Go.Proofs.Ytjiiaepmdlempaa
