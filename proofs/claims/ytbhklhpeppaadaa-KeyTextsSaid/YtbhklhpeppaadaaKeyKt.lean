/- KeyTexts: the walk. -/
import Derived.Test.YtbhklhpeppaadaaKeyKc
import Derived.Laws.IdiomStrings
namespace Go.Proofs.Ytbhklhpeppaadaa
open Go.RowKit
set_option linter.unusedVariables false
set_option linter.unusedSimpArgs false
open ShaW Sha

theorem str_add (a b X : ByteArray) (h : a.size + b.size ≤ 9223372036854775807) (hx : a ++ b = X) (W : World) : (Op.stringOp .add a b).run Try.prog W = .ok (.string X) W := by
  rw [← hx]; exact run_string_add_sum W a b h
theorem str_byte (W : World) (b : Nat) (hb : b < 256) (t : TypeId) : (convert 22 9 (.slice (some ⟨W.heap.size, 0, none⟩) 1 1)).run Try.prog (W.alloc (.cells #[.int .u8 (b : Int)] t)).drew = .ok (.string ⟨#[UInt8.ofNat b]⟩) (W.alloc (.cells #[.int .u8 (b : Int)] t)).drew := by
  refine run_convert_bytes_back (P := Try.prog) _ 22 9 5 ⟨W.heap.size, 0, none⟩ 1 [UInt8.ofNat b] Try.underlying22 Try.underlying5 Try.underlying9 (fun j hj => ?_)
  have : j = 0 := by simp at hj; omega
  subst this
  show (W.alloc (.cells #[.int .u8 (b : Int)] t)).cell? _ = _
  rw [add_flat, lit_cell]
  show some (Value.int .u8 (b : Int)) = some (Value.int .u8 ((UInt8.ofNat b).toNat : Int))
  rw [UInt8.toNat_ofNat', Nat.mod_eq_of_lt (by omega)]

set_option maxRecDepth 100000 in
set_option maxHeartbeats 8000000 in
attribute [local go_sem ↓] wp_load_k in
theorem keyTexts_any (w : World) (k : Ky) (s : ByteArray) (at_ by_ cut : Nat) (hat : at_ < 256) (hby : by_ < 256) (hct : cut < 256) :
    Calls Try.prog 5 #[.agg (bytesOf 32 k).toArray, .string s, .int .u8 (at_ : Int), .int .u8 (by_ : Int), .int .u8 (cut : Int)] w fun e w' => e = .returned (.bool true) ∧ Below w.heap.size w w' := by
  obtain ⟨ck, hck⟩ : ∃ ck, (bytesOf 32 k).toArray = ck := ⟨_, rfl⟩
  rw [hck]
  have HCK := Lib.hid hck
  clear hck
  obtain ⟨i, hi⟩ : ∃ i, at_ % 64 = i := ⟨_, rfl⟩
  have hi64 : i < 64 := by omega
  have hsi : (at_ : Int) % 64 = (i : Int) := by omega
  obtain ⟨c, hc⟩ : ∃ c, cut % 65 = c := ⟨_, rfl⟩
  have hc65 : c < 65 := by omega
  have hsc : (cut : Int) % 65 = (c : Int) := by omega
  clear hi hc
  go_enter Try.func5, Try.ntmps5
  go_upto_region 1 with (fail)
  generalize hwa : World.alloc w _ = wa
  have hb0 : Below w.heap.size w wa := by rw [← hwa]; exact (Below.refl _ _).alloc (Nat.le_refl _) _
  have hga : Blk wa w.heap.size 25 (bytesOf 32 k).toArray := by rw [← hwa, HCK.out]; exact Blk.new w _ ck
  have HB0 := Lib.hid hb0
  have HGA := Lib.hid hga
  have hz0 := hb0.size
  clear hwa hb0 hga
  rcases Nat.lt_or_ge 200 s.size with h200 | h200
  · skip
    have t1 : (200 : Int) < (s.size : Int) := by omega
    go_wp2_with fail
    refine (known_any _).mono ?_
    rintro e w1 ⟨rfl, hb1⟩
    go_wp2_with fail
    go_ret
    exact ⟨rfl, HB0.out.trans (hb1.mono hz0)⟩
  have t1 : ¬ ((200 : Int) < (s.size : Int)) := by omega
  obtain ⟨st, hst⟩ : ∃ st : ByteArray, (⟨(hexL k 32).toArray⟩ : ByteArray) = st := ⟨_, rfl⟩
  have hss : st.size = 64 := by
    rw [← hst]
    show (hexL k 32).toArray.size = 64
    rw [List.size_toArray, hexL_length]
  have HFA : Hid (∀ W, Calls Try.prog 12 #[keyV k] W fun e w' => e = .returned (.string st) ∧ Below W.heap.size W w') := fun W => by rw [← hst]; exact format_any W k
  have HRF : Hid (∀ W, Calls Try.prog 13 #[keyV k] W fun e w' => e = .returned (.string st) ∧ Below W.heap.size W w') := fun W => by rw [← hst]; exact rformat_any W k
  clear hst
  have hsZ : (st.size : Int) = 64 := by omega
  have ga := HGA.out
  have a1 := keyOk_mk (blk_key ga)
  have a2 := loadK_eq (blk_key ga)
  have hla := ga.lt
  clear ga
  go_wp2_with fail
  refine (HFA.out _).mono ?_
  rintro e w1 ⟨rfl, hb1⟩
  have ga := HGA.out.below hb1 hla
  clear a1 a2
  have a1 := keyOk_mk (blk_key ga)
  have a2 := loadK_eq (blk_key ga)
  have HB1 := Lib.hid hb1
  clear hb1 ga
  go_wp2_with fail
  refine (HRF.out _).mono ?_
  rintro e w2 ⟨rfl, hb2⟩
  clear a1 a2
  have HB2 := Lib.hid (HB1.out.trans (hb2.mono HB1.out.size))
  clear hb2
  go_upto_region 7 with (fail)
  obtain ⟨x1, hx1⟩ : ∃ x : ByteArray, st.extract 0 i = x := ⟨_, rfl⟩
  obtain ⟨x2, hx2⟩ : ∃ x : ByteArray, st.extract (i + 1) 64 = x := ⟨_, rfl⟩
  obtain ⟨x3, hx3⟩ : ∃ x : ByteArray, st.extract 0 c = x := ⟨_, rfl⟩
  have z1 : x1.size ≤ 64 := by rw [← hx1]; simp [ByteArray.size_extract]; omega
  have z2 : x2.size ≤ 64 := by rw [← hx2]; simp [ByteArray.size_extract]; omega
  have z3 : x3.size ≤ 64 := by rw [← hx3]; simp [ByteArray.size_extract]; omega
  obtain ⟨y0, hy0⟩ : ∃ y : ByteArray, (⟨#[UInt8.ofNat by_]⟩ : ByteArray) = y := ⟨_, rfl⟩
  have zy : y0.size = 1 := by rw [← hy0]; rfl
  obtain ⟨y1, hy1⟩ : ∃ y : ByteArray, x1 ++ y0 = y := ⟨_, rfl⟩
  obtain ⟨y2, hy2⟩ : ∃ y : ByteArray, y1 ++ x2 = y := ⟨_, rfl⟩
  obtain ⟨y3, hy3⟩ : ∃ y : ByteArray, st ++ ⟨#[48]⟩ = y := ⟨_, rfl⟩
  have v1 : y1.size ≤ 65 := by rw [← hy1, ByteArray.size_append]; omega
  have v2 : y2.size ≤ 129 := by rw [← hy2, ByteArray.size_append]; omega
  have v3 : y3.size ≤ 65 := by rw [← hy3, ByteArray.size_append, hss]; exact Nat.le_refl _
  have i0 : (0 : Int) ≤ (i : Int) := by omega
  have i1 : (i : Int) ≤ 64 := by omega
  have i2 : (0 : Int) ≤ (i : Int) + 1 := by omega
  have i3 : (i : Int) + 1 ≤ 64 := by omega
  have i4 : ((i : Int) + 1).toNat = i + 1 := by omega
  have c0 : (0 : Int) ≤ (c : Int) := by omega
  have g1 : IntKind.i64.wrap ((i : Int) + 1) = (i : Int) + 1 := IntWalk.i64_in _ (by omega)
  have g2 : IntKind.i64.wrap (cut : Int) = (cut : Int) := IntWalk.i64_in _ (by omega)
  have g3 : (cut : Int).tmod 65 = (c : Int) := by rw [Int.tmod_eq_emod_of_nonneg (by omega)]; exact hsc
  have c1 : (c : Int) ≤ 64 := by omega
  have p1 := fun W => str_add x1 y0 y1 (by omega) hy1 W
  have p2 := fun W => str_add y1 x2 y2 (by omega) hy2 W
  have p3 := fun W => str_add st ⟨#[48]⟩ y3 (by rw [hss]; show 64 + 1 ≤ _; omega) hy3 W
  have cv : ∀ (W : World) (t : TypeId), _ := fun W t => str_byte W by_ hby t
  rw [hy0] at cv
  have HZ := Lib.hid (And.intro z3 (And.intro v2 v3))
  have HH := Lib.hid h200
  have hz2 := HB2.out.size
  clear hy0 hy1 hy2 hy3 z1 z2 z3 zy v1 v2 v3
  refine wp_region_noPanic ?_
  refine wp_region_held_drew (S := fun _ => True) (by kernel_rfl) trivial (fun hHeld => ?_)
  refine wpAnyH_take (i := 0) (oi := ⟨some 37, _, _, _, _, _⟩) (v := ?_) rfl (by kernel_rfl) (by kernel_rfl) (by kernel_rfl) (fun _ _ _ h => h) (Or.inl ⟨by kernel_rfl, ?_⟩) hHeld ?_
  rotate_left
  · intro w hSw
    (try dsimp only at hSw)
    go_simp
    all_goals (with_reducible rfl)
  conv => arg 8; simp only [Act.put, List.setIfInBounds_toArray, List.set_cons_zero, List.set_cons_succ]
  refine wpAnyH_take (i := 1) (oi := ⟨some 38, _, _, _, _, _⟩) (v := ?_) rfl (by kernel_rfl) (by kernel_rfl) (by kernel_rfl) (fun _ _ _ h => h) (Or.inl ⟨by kernel_rfl, ?_⟩) hHeld ?_
  rotate_left
  · intro w hSw
    (try dsimp only at hSw)
    go_simp
    all_goals (with_reducible rfl)
  conv => arg 8; simp only [Act.put, List.setIfInBounds_toArray, List.set_cons_zero, List.set_cons_succ]
  refine wpAnyH_take (i := 2) (oi := ⟨some 39, _, _, _, _, _⟩) (v := ?_) rfl (by kernel_rfl) (by kernel_rfl) (by kernel_rfl) (fun _ _ _ h => h) (Or.inl ⟨by kernel_rfl, ?_⟩) hHeld ?_
  rotate_left
  · intro w hSw
    (try dsimp only at hSw)
    go_simp
    all_goals (with_reducible rfl)
  conv => arg 8; simp only [Act.put, List.setIfInBounds_toArray, List.set_cons_zero, List.set_cons_succ]
  refine wpAnyH_take (i := 3) (oi := ⟨some 40, _, _, _, _, _⟩) (v := ?_) rfl (by kernel_rfl) (by kernel_rfl) (by kernel_rfl) (fun _ _ _ h => h) (Or.inl ⟨by kernel_rfl, ?_⟩) hHeld ?_
  rotate_left
  · intro w hSw
    (try dsimp only at hSw)
    go_simp
    all_goals (with_reducible rfl)
  conv => arg 8; simp only [Act.put, List.setIfInBounds_toArray, List.set_cons_zero, List.set_cons_succ]
  refine wpAnyH_take (i := 4) (oi := ⟨some 41, _, _, _, _, _⟩) (v := ?_) rfl (by kernel_rfl) (by kernel_rfl) (by kernel_rfl) (fun _ _ _ h => h) (Or.inl ⟨by kernel_rfl, ?_⟩) hHeld ?_
  rotate_left
  · intro w hSw
    (try dsimp only at hSw)
    go_simp
    all_goals (with_reducible rfl)
  conv => arg 8; simp only [Act.put, List.setIfInBounds_toArray, List.set_cons_zero, List.set_cons_succ]
  refine wpAnyH_take (i := 5) (oi := ⟨some 42, _, _, _, _, _⟩) (v := ?_) rfl (by kernel_rfl) (by kernel_rfl) (by kernel_rfl) (fun _ _ _ h => h) (Or.inl ⟨by kernel_rfl, ?_⟩) hHeld ?_
  rotate_left
  · intro w hSw
    (try dsimp only at hSw)
    go_simp
    all_goals (with_reducible rfl)
  conv => arg 8; simp only [Act.put, List.setIfInBounds_toArray, List.set_cons_zero, List.set_cons_succ]
  refine wpAnyH_take (i := 9) (oi := ⟨some 46, _, _, _, _, _⟩) (v := ?_) rfl (by kernel_rfl) (by kernel_rfl) (by kernel_rfl) (fun _ _ _ h => h) (Or.inl ⟨by kernel_rfl, ?_⟩) hHeld ?_
  rotate_left
  · intro w hSw
    (try dsimp only at hSw)
    go_simp
    all_goals (with_reducible rfl)
  conv => arg 8; simp only [Act.put, List.setIfInBounds_toArray, List.set_cons_zero, List.set_cons_succ]
  refine wpAnyH_take (i := 10) (oi := ⟨some 47, _, _, _, _, _⟩) (v := ?_) rfl (by kernel_rfl) (by kernel_rfl) (by kernel_rfl) (fun _ _ _ h => h) (Or.inl ⟨by kernel_rfl, ?_⟩) hHeld ?_
  rotate_left
  · intro w hSw
    (try dsimp only at hSw)
    go_simp
    all_goals (with_reducible rfl)
  conv => arg 8; simp only [Act.put, List.setIfInBounds_toArray, List.set_cons_zero, List.set_cons_succ]
  refine wpAnyH_take (i := 11) (oi := ⟨some 48, _, _, _, _, _⟩) (v := ?_) rfl (by kernel_rfl) (by kernel_rfl) (by kernel_rfl) (fun _ _ _ h => h) (Or.inl ⟨by kernel_rfl, ?_⟩) hHeld ?_
  rotate_left
  · intro w hSw
    (try dsimp only at hSw)
    go_simp
    all_goals (with_reducible rfl)
  conv => arg 8; simp only [Act.put, List.setIfInBounds_toArray, List.set_cons_zero, List.set_cons_succ]
  refine wpAnyH_take (i := 12) (oi := ⟨some 49, _, _, _, _, _⟩) (v := ?_) rfl (by kernel_rfl) (by kernel_rfl) (by kernel_rfl) (fun _ _ _ h => h) (Or.inl ⟨by kernel_rfl, ?_⟩) hHeld ?_
  rotate_left
  · intro w hSw
    (try dsimp only at hSw)
    go_simp
    all_goals (with_reducible rfl)
  conv => arg 8; simp only [Act.put, List.setIfInBounds_toArray, List.set_cons_zero, List.set_cons_succ]
  refine wpAnyH_take (i := 14) (oi := ⟨some 51, _, _, _, _, _⟩) (v := ?_) rfl (by kernel_rfl) (by kernel_rfl) (by kernel_rfl) (fun _ _ _ h => h) (Or.inl ⟨by kernel_rfl, ?_⟩) hHeld ?_
  rotate_left
  · intro w hSw
    (try dsimp only at hSw)
    go_simp
    all_goals (with_reducible rfl)
  conv => arg 8; simp only [Act.put, List.setIfInBounds_toArray, List.set_cons_zero, List.set_cons_succ]
  refine wpAnyH_take (i := 15) (oi := ⟨some 52, _, _, _, _, _⟩) (v := ?_) rfl (by kernel_rfl) (by kernel_rfl) (by kernel_rfl) (fun _ _ _ h => h) (Or.inl ⟨by kernel_rfl, ?_⟩) hHeld ?_
  rotate_left
  · intro w hSw
    (try dsimp only at hSw)
    go_simp
    all_goals (with_reducible rfl)
  conv => arg 8; simp only [Act.put, List.setIfInBounds_toArray, List.set_cons_zero, List.set_cons_succ]
  refine wpAnyH_take (i := 16) (oi := ⟨some 53, _, _, _, _, _⟩) (v := ?_) rfl (by kernel_rfl) (by kernel_rfl) (by kernel_rfl) (fun _ _ _ h => h) (Or.inl ⟨by kernel_rfl, ?_⟩) hHeld ?_
  rotate_left
  · intro w hSw
    (try dsimp only at hSw)
    go_simp
    all_goals (with_reducible rfl)
  conv => arg 8; simp only [Act.put, List.setIfInBounds_toArray, List.set_cons_zero, List.set_cons_succ]
  refine wpAnyH_take (i := 17) (oi := ⟨some 54, _, _, _, _, _⟩) (v := ?_) rfl (by kernel_rfl) (by kernel_rfl) (by kernel_rfl) (fun _ _ _ h => h) (Or.inl ⟨by kernel_rfl, ?_⟩) hHeld ?_
  rotate_left
  · intro w hSw
    (try dsimp only at hSw)
    go_simp
    all_goals (with_reducible rfl)
  conv => arg 8; simp only [Act.put, List.setIfInBounds_toArray, List.set_cons_zero, List.set_cons_succ]
  refine wpAnyH_take (i := 18) (oi := ⟨some 55, _, _, _, _, _⟩) (v := ?_) rfl (by kernel_rfl) (by kernel_rfl) (by kernel_rfl) (fun _ _ _ h => h) (Or.inl ⟨by kernel_rfl, ?_⟩) hHeld ?_
  rotate_left
  · intro w hSw
    (try dsimp only at hSw)
    go_simp
    all_goals (with_reducible rfl)
  conv => arg 8; simp only [Act.put, List.setIfInBounds_toArray, List.set_cons_zero, List.set_cons_succ]
  refine wpAnyH_take (i := 19) (oi := ⟨some 56, _, _, _, _, _⟩) (v := ?_) rfl (by kernel_rfl) (by kernel_rfl) (by kernel_rfl) (fun _ _ _ h => h) (Or.inl ⟨by kernel_rfl, ?_⟩) hHeld ?_
  rotate_left
  · intro w hSw
    (try dsimp only at hSw)
    go_simp
    all_goals (with_reducible rfl)
  conv => arg 8; simp only [Act.put, List.setIfInBounds_toArray, List.set_cons_zero, List.set_cons_succ]
  refine wpAnyH_take (i := 20) (oi := ⟨some 57, _, _, _, _, _⟩) (v := ?_) rfl (by kernel_rfl) (by kernel_rfl) (by kernel_rfl) (fun _ _ _ h => h) (Or.inl ⟨by kernel_rfl, ?_⟩) hHeld ?_
  rotate_left
  · intro w hSw
    (try dsimp only at hSw)
    go_simp
    all_goals (with_reducible rfl)
  conv => arg 8; simp only [Act.put, List.setIfInBounds_toArray, List.set_cons_zero, List.set_cons_succ]
  refine wpAnyH_take (i := 23) (oi := ⟨some 60, _, _, _, _, _⟩) (v := ?_) rfl (by kernel_rfl) (by kernel_rfl) (by kernel_rfl) (fun _ _ _ h => h) (Or.inl ⟨by kernel_rfl, ?_⟩) hHeld ?_
  rotate_left
  · intro w hSw
    (try dsimp only at hSw)
    go_simp
    all_goals (with_reducible rfl)
  conv => arg 8; simp only [Act.put, List.setIfInBounds_toArray, List.set_cons_zero, List.set_cons_succ]
  refine wpAnyH_ready (rs := [6]) (by kernel_rfl) (by simp) ?_
  refine AllReadyH.cons (o := ⟨some 43, _, _, _, _, _⟩) rfl (fun K hK => ?_) AllReadyH.nil
  go_simp
  refine hK.out _ _ trivial (fun hHeld => ?_)
  clear hK K
  conv => arg 8; simp only [Act.put, List.setIfInBounds_toArray, List.set_cons_zero, List.set_cons_succ]
  refine wpAnyH_ready (rs := [7]) (by kernel_rfl) (by simp) ?_
  refine AllReadyH.cons (o := ⟨some 44, _, _, _, _, _⟩) rfl (fun K hK => ?_) AllReadyH.nil
  go_simp
  refine hK.out _ _ trivial (fun hHeld => ?_)
  clear hK K
  conv => arg 8; simp only [Act.put, List.setIfInBounds_toArray, List.set_cons_zero, List.set_cons_succ]
  refine wpAnyH_take (i := 8) (oi := ⟨some 45, _, _, _, _, _⟩) (v := ?_) rfl (by kernel_rfl) (by kernel_rfl) (by kernel_rfl) (fun _ _ _ h => h) (Or.inl ⟨by kernel_rfl, ?_⟩) hHeld ?_
  rotate_left
  · intro w hSw
    (try dsimp only at hSw)
    go_simp
    all_goals (with_reducible rfl)
  conv => arg 8; simp only [Act.put, List.setIfInBounds_toArray, List.set_cons_zero, List.set_cons_succ]
  refine wpAnyH_take (i := 13) (oi := ⟨some 50, _, _, _, _, _⟩) (v := ?_) rfl (by kernel_rfl) (by kernel_rfl) (by kernel_rfl) (fun _ _ _ h => h) (Or.inl ⟨by kernel_rfl, ?_⟩) hHeld ?_
  rotate_left
  · intro w hSw
    (try dsimp only at hSw)
    go_simp
    all_goals (with_reducible rfl)
  conv => arg 8; simp only [Act.put, List.setIfInBounds_toArray, List.set_cons_zero, List.set_cons_succ]
  refine wpAnyH_ready (rs := [21]) (by kernel_rfl) (by simp) ?_
  refine AllReadyH.cons (o := ⟨some 58, _, _, _, _, _⟩) rfl (fun K hK => ?_) AllReadyH.nil
  go_simp
  refine hK.out _ _ trivial (fun hHeld => ?_)
  clear hK K
  conv => arg 8; simp only [Act.put, List.setIfInBounds_toArray, List.set_cons_zero, List.set_cons_succ]
  refine wpAnyH_take (i := 22) (oi := ⟨some 59, _, _, _, _, _⟩) (v := ?_) rfl (by kernel_rfl) (by kernel_rfl) (by kernel_rfl) (fun _ _ _ h => h) (Or.inl ⟨by kernel_rfl, ?_⟩) hHeld ?_
  rotate_left
  · intro w hSw
    (try dsimp only at hSw)
    go_simp
    all_goals (with_reducible rfl)
  conv => arg 8; simp only [Act.put, List.setIfInBounds_toArray, List.set_cons_zero, List.set_cons_succ]
  refine wpAnyH_done (by kernel_rfl) ?_ _
  refine NoPanic.normal ?_
  generalize hw3 : World.drew _ = w3
  have hb3 : Below w2.heap.size w2 w3 := by rw [← hw3]; exact belowDrewR (((Below.refl _ _).alloc (Nat.le_refl _) _).alloc (by simp) _)
  have hB : Blk w3 (w2.heap.size + 1) 9 #[.string s, .string st, .string y2, .string x3, .string y3] := by rw [← hw3]; exact heap_alloc_at _ _ _ (by simp)
  have hstr : ∀ n, n < 5 → ∃ z : ByteArray, z.data.toList.length ≤ 1048576 ∧ w3.cell? ⟨w2.heap.size + 1, n, none⟩ = some (.string z) := by
    intro n hn
    obtain ⟨z3, v2, v3⟩ := HZ.out
    have hsm := HH.out
    have hln : ∀ z : ByteArray, z.size ≤ 200 → z.data.toList.length ≤ 1048576 := fun z h => by
      rw [Array.length_toList]
      exact Nat.le_trans h (by omega)
    rcases (show n = 0 ∨ n = 1 ∨ n = 2 ∨ n = 3 ∨ n = 4 by omega) with rfl | rfl | rfl | rfl | rfl
    · exact ⟨s, hln _ hsm, hB.cell 0⟩
    · exact ⟨st, hln _ (by omega), hB.cell 1⟩
    · exact ⟨y2, hln _ (by omega), hB.cell 2⟩
    · exact ⟨x3, hln _ (by omega), hB.cell 3⟩
    · exact ⟨y3, hln _ (by omega), hB.cell 4⟩
  have hlt3 := hB.lt
  have HBW := Lib.hid ((HB0.out.trans (HB2.out.mono hz0)).trans (hb3.mono (Nat.le_trans hz0 hz2)))
  have HST := Lib.hid hstr
  have hz3 := HBW.out.size
  clear hw3 hb3 hB hstr p1 p2 p3 cv g1 g2 g3 i0 i1 i2 i3 i4 c0 c1 hx1 hx2 hx3 hHeld
  go_wp2_with fail
  go_loopw [60] (fun i wr => ∃ n : Nat, n ≤ 5 ∧ i = .int .i64 (n : Int) ∧ Below w3.heap.size w3 wr) (fun i _ => 5 - (intOf i).toNat)
  case atStart => exact ⟨0, by omega, rfl, Below.refl _ _⟩
  case round =>
    obtain ⟨n, hn, rfl, hbr⟩ := hrel
    have hzr := hbr.size
    rcases Nat.lt_or_ge n 5 with hlt | hge
    · have hlt' : decide ((n : Int) < 5) = true := by simp; omega
      have hlt2 : (n : Int) < 5 := by omega
      have hn0 : (0 : Int) ≤ n := by omega
      obtain ⟨z, hz, hc⟩ := HST.out n hlt
      have d1 := (hbr.cell (p := ⟨w2.heap.size + 1, n, none⟩) hlt3).trans hc
      have HBR := Lib.hid hbr
      have HZZ := Lib.hid hz
      clear hbr hc hz
      go_wp2_with fail
      refine (parse_any _ z HZZ.out).mono ?_
      rintro e w4 ⟨k1, er1, rfl, hb4, hp1⟩
      have HP1 := Lib.hid hp1
      have hz4 := hb4.size
      have HB4 := Lib.hid hb4
      clear hp1 hb4 d1
      go_wp2_with (refine wpList_store_rowTo rfl 25 (.tmp 15) (.tmp 67) rfl rfl w4.heap.size (bytesOf 32 k1).toArray rfl rfl _ _ (heap_alloc_new _ _) (by rw [keyV_size]; kernel_rfl) (by rw [keyV_size]; kernel_rfl) (keyV_one _) ?_
                   generalize hwc : World.setRow _ _ _ = wc
                   have hk1 : Blk wc w4.heap.size 25 (bytesOf 32 k1).toArray := by rw [← hwc]; exact setRow_same _ _ _ _ _ (heap_alloc_new _ _)
                   have hbc : Below wr.heap.size wr wc := by rw [← hwc]; exact below_setRow (HB4.out.alloc hz4 _) hz4 _
                   have HK1 := Lib.hid hk1
                   have HBC := Lib.hid hbc
                   have hzc := hbc.size
                   clear hwc hk1 hbc)
      refine (rparse_any _ z HZZ.out).mono ?_
      rintro e w5 ⟨k2, er2, rfl, hb5, hp2⟩
      obtain ⟨rfl, rfl⟩ : k2 = k1 ∧ er2 = er1 := by
        rcases HP1.out with ⟨h1, h2, h3, h4⟩ | ⟨h1, h3, h4⟩
        · rcases hp2 with ⟨g1, g2, g3, g4⟩ | ⟨g1, g3, g4⟩
          · exact ⟨g3.trans h3.symm, g4.trans h4.symm⟩
          · exact absurd ⟨h1, h2⟩ g1
        · rcases hp2 with ⟨g1, g2, g3, g4⟩ | ⟨g1, g3, g4⟩
          · exact absurd ⟨g1, g2⟩ h1
          · exact ⟨g3.trans h3.symm, g4.trans h4.symm⟩
      have hne : ∀ W, (binOp .neq 25 (keyV k2) (keyV k2)).run Try.prog W = .ok (.bool false) W := fun W => by
        have := run_keyNe W k2 k2
        rw [keyEq_refl] at this
        exact this
      have hz5 := hb5.size
      have HB5 := Lib.hid (HBC.out.trans (hb5.mono hzc))
      have HK5 := Lib.hid (HK1.out.below hb5 HK1.out.lt)
      have hlk := HK5.out.lt
      clear hb5 hp2
      go_wp2_with (refine wpList_store_rowTo rfl 25 (.tmp 17) (.tmp 72) rfl rfl w5.heap.size (bytesOf 32 k2).toArray rfl rfl _ _ (heap_alloc_new _ _) (by rw [keyV_size]; kernel_rfl) (by rw [keyV_size]; kernel_rfl) (keyV_one _) ?_
                   generalize hwc : World.setRow _ _ _ = wd
                   have hbd5 : Below w5.heap.size w5 wd := by rw [← hwc]; exact below_setRow ((Below.refl _ _).alloc (Nat.le_refl _) _) (Nat.le_refl _) _
                   have hk2 : Blk wd w5.heap.size 25 (bytesOf 32 k2).toArray := by rw [← hwc]; exact setRow_same _ _ _ _ _ (heap_alloc_new _ _)
                   have hk1 := HK5.out.below hbd5 hlk
                   have HBD := Lib.hid (HB5.out.trans (hbd5.mono HB5.out.size))
                   have r1 := keyOk_mk (blk_key hk1)
                   have r2 := loadK_eq (blk_key hk1)
                   have r3 := keyOk_mk (blk_key hk2)
                   have r4 := loadK_eq (blk_key hk2)
                   clear hwc hk1 hk2 hbd5)
      go_roundw
      case rel => exact ⟨n + 1, by omega, by go_num, HBR.out.trans (HBD.out.mono hzr)⟩
      case measure => simp [intOf]; omega
    · obtain rfl : n = 5 := by omega
      have HBR := Lib.hid hbr
      clear hbr
      go_wp2_with fail
      refine (known_any _).mono ?_
      rintro e w4 ⟨rfl, hb4⟩
      have HB4 := Lib.hid (HBW.out.trans ((HBR.out.trans (hb4.mono hzr)).mono hz3))
      clear hb4
      go_wp2_with fail
      go_ret
      exact ⟨rfl, HB4.out⟩
end Go.Proofs.Ytbhklhpeppaadaa
