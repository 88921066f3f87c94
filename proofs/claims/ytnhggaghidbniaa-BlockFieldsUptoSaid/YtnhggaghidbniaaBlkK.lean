/- known. -/
import Derived.Test.YtnhggaghidbniaaBlkH
import Derived.Test.YtnhggaghidbniaaBlkW
import Derived.Test.YtnhggaghidbniaaBlkX
namespace Go.Proofs.Ytnhggaghidbniaa
open Go.RowKit
set_option linter.unusedVariables false
set_option linter.unusedSimpArgs false
open Wir ShaW Sha
set_option maxRecDepth 100000

theorem ite_yes {c : Prop} [Decidable c] {a b : Prop} (hc : c) (h : a) : ite c a b := by rw [if_pos hc]; exact h
theorem same_cells {x y : Hd} (h : x.same y) : hdCells y = hdCells x := by
  obtain ⟨h1, h2, h3, h4, h5, h6, h7⟩ := h
  have e : ∀ {k k' : Ky}, kL k' = kL k → bytesOf 32 k' = bytesOf 32 k := fun {k k'} e => by rw [bytesOf_bytesL, bytesOf_bytesL]; exact congrArg bytesL e
  unfold hdCells
  rw [h1, h2, h3, e h4, e h5, e h6, e h7]
def k9 : Ky := fun j => if j = 0 then 9 else 0
def xK : Hd := ⟨1, 7, 0, fun _ => 0, k9, fun _ => 0, fun _ => 0⟩
def txK : List (List UInt8) := [[1, 2], []]
theorem xK_fits : xK.fits := ⟨⟨by decide, by decide⟩, ⟨by decide, by decide⟩, ⟨by decide, by decide⟩⟩
theorem enc_key_len {i : Int} (hi : 1 ≤ i ∧ i ≤ 7) (k : Ky) : (enc (bytF i (kL k))).length = 34 := by
  unfold enc bytF
  simp only [if_neg (show ¬ (2 : Int) = 0 by omega), List.length_append, kL_len]
  rw [vint_lt (show (8 * i + 2).toNat < 128 by omega), vint_lt (show 32 < 128 by omega)]
  rfl
theorem enc_num_len {i n : Int} (hi : 1 ≤ i ∧ i ≤ 7) (hn : 0 ≤ n ∧ n < 128) : (enc (numF i n)).length = 2 := by
  unfold enc numF
  simp only [if_true, List.length_append]
  rw [vint_lt (show (8 * i + 0).toNat < 128 by omega), vint_lt (show (max n 0).toNat < 128 by omega)]
  rfl
theorem xK_head : (headerB xK).length = 142 := by
  unfold headerB hdFields msg
  simp only [List.flatMap_cons, List.flatMap_nil, List.length_append, List.length_nil]
  rw [enc_num_len (by omega) (by unfold xK; simp), enc_num_len (by omega) (by unfold xK; simp), enc_num_len (by omega) (by unfold xK; simp), enc_key_len (by omega), enc_key_len (by omega), enc_key_len (by omega), enc_key_len (by omega)]
theorem form_K : (form xK txK).length = 151 := by
  unfold form blkFields txK
  rw [msg_cons, List.length_append]
  have h1 : (enc (bytF 1 (headerB xK))).length = 145 := by
    unfold enc bytF
    simp only [if_neg (show ¬ (2 : Int) = 0 by omega), List.length_append, xK_head]
    rw [vint_lt (show (8 * (1 : Int) + 2).toNat < 128 by decide), vint_ge (show 128 ≤ 142 by omega), vint_lt (show 142 / 128 < 128 by decide)]
    rfl
  have h2 : (msg (List.map (bytF 2) [[1, 2], []])).length = 6 := by
    unfold msg enc bytF
    simp only [List.map_cons, List.map_nil, List.flatMap_cons, List.flatMap_nil, if_neg (show ¬ (2 : Int) = 0 by omega), List.length_append, List.length_cons, List.length_nil]
    rw [vint_lt (show (8 * (2 : Int) + 2).toNat < 128 by decide), vint_lt (show 0 + 1 + 1 < 128 by omega), vint_lt (show 0 < 128 by omega)]
    rfl
  rw [h1, h2]
theorem encE_K : encE xK txK = 0 := by
  refine encE_ok (by decide) (by decide) ?_
  rw [form_K]
  decide
theorem encE_Z : encE (hdPart [] 0) [] = 1 := encE_nums (by decide)
theorem built_k9 : Try.prog.built 23 [(0, .int .u8 9)] = some (bytesOf 32 k9).toArray := by kernel_rfl
theorem built_xK : Try.prog.built 25 [(0, .int .i64 1), (1, .int .i64 7), (4, keyV k9)] = some (hdCells xK).toArray := by kernel_rfl
theorem built_blK (A : Option Addr) (n c : Nat) : Try.prog.built 28 [(0, hdV xK), (1, .slice A n c)] = some (blCells xK (.slice A n c)).toArray := by kernel_rfl
theorem u8_fill2 (a b : Int) (ie : TypeInfo) (hs : ie.size = 1) : Instr.fill (fun i => some (i * ie.size, ie.size)) ((Array.range (2 * ie.size)).map ((Value.int .u8 0).cells[· % (Value.int .u8 0).cells.size]!)) [(0, .int .u8 a), (1, .int .u8 b)] = some #[.int .u8 a, .int .u8 b] := by
  rw [hs]
  kernel_rfl
theorem sl_fill2 (A A' : Option Addr) (n c n' c' : Nat) (ie : TypeInfo) (hs : ie.size = 1) : Instr.fill (fun i => some (i * ie.size, ie.size)) ((Array.range (2 * ie.size)).map ((Value.slice none 0 0).cells[· % (Value.slice none 0 0).cells.size]!)) [(0, .slice A n c), (1, .slice A' n' c')] = some #[.slice A n c, .slice A' n' c'] := by
  rw [hs]
  kernel_rfl
theorem txK_at {w : World} {ga gx : Nat} (h1 : Blk w gx 5 #[.int .u8 1, .int .u8 2]) (h2 : Blk w ga 33 #[.slice (some ⟨gx, 0, none⟩) 2 2, .slice none 0 0]) : TxsAt w (.slice (some ⟨ga, 0, none⟩) 2 2) txK := by
  refine ⟨some ⟨ga, 0, none⟩, 2, rfl, Nat.le_refl _, by omega, ga, 0, fun _ => rfl, fun j b hj => ?_⟩
  match j, hj with
  | 0, hj =>
    have e : [1, 2] = b := by unfold txK at hj; injection hj
    subst e
    refine ⟨.slice (some ⟨gx, 0, none⟩) 2 2, by rw [h2.cell]; rfl, some ⟨gx, 0, none⟩, 2, rfl, Nat.le_refl _, by omega, rfl, fun _ => ⟨_, rfl, h1.lt, fun i u hu => ?_⟩⟩
    rw [add_flat, Nat.zero_add, h1.cell]
    exact List.getElem?_toArray.trans hu
  | 1, hj =>
    have e : [] = b := by unfold txK at hj; injection hj
    subst e
    exact ⟨.slice none 0 0, by rw [h2.cell]; rfl, SeeB.nil w⟩
  | n + 2, hj => unfold txK at hj; simp at hj
/-- what known holds to the end -/
def KnS (gb gc : Nat) (tv tv2 : Value) (y : Hd) (w' : World) : Prop := w'.rangeAt gb 0 (blCells xK tv) ∧ w'.rangeAt gc 0 (blCells y tv2)
theorem KnS.below {gb gc : Nat} {tv tv2 : Value} {y : Hd} {w w' : World} (h : KnS gb gc tv tv2 y w) (hb : Below w.heap.size w w') : KnS gb gc tv tv2 y w' :=
  ⟨fun j u hu => (hb.cell (p := ⟨gb, 0 + j, none⟩) (World.block_lt_of_cell? w _ (h.1 j u hu))).trans (h.1 j u hu), fun j u hu => (hb.cell (p := ⟨gc, 0 + j, none⟩) (World.block_lt_of_cell? w _ (h.2 j u hu))).trans (h.2 j u hu)⟩
theorem KnS.hd {gb gc : Nat} {tv tv2 : Value} {y : Hd} {w : World} (h : KnS gb gc tv tv2 y w) : w.rangeAt gb 0 (hdCells xK) := fun j u hu => h.1 j u (blCells_hd hu)
theorem KnS.tv {gb gc : Nat} {tv tv2 : Value} {y : Hd} {w : World} (h : KnS gb gc tv tv2 y w) : w.cell? ⟨gb, 131, none⟩ = some tv := by
  have h1 := h.1 131 tv (blCells_tv xK tv)
  rwa [Nat.zero_add] at h1
theorem bl_sizeB (x : Hd) (tv : Value) : (Try.prog.info? 28).map (·.size) = some (blCells x tv).length := by rw [blCells_len]; kernel_rfl
theorem hd_sizeK (y : Hd) : (Try.prog.info? 25).map (·.size) = some (hdCells y).length := by rw [hdCells_len]; kernel_rfl
set_option maxHeartbeats 8000000 in
attribute [local go_sem ↓] wp_load_hd wp_store_hd wp_load_bl wp_store_bl in
theorem known_any (w : World) : Calls Try.prog 9 #[] w fun e w' => e = .returned (.bool true) ∧ Below w.heap.size w w' := by
  obtain ⟨i0, hi0, hz0, hz1, hz2⟩ := info_parts sl_info
  obtain ⟨u0, hu0, hy0, hy1, hy2⟩ := info_parts u8_infoW
  have HI0 := Lib.hid hi0
  have HZ0 := Lib.hid hz0
  have HU0 := Lib.hid hu0
  have HY0 := Lib.hid hy0
  clear hi0 hz0 hu0 hy0
  go_enter Try.func9, Try.ntmps9
  obtain ⟨X1, hX1⟩ : ∃ X, w.alloc (.cells #[.int .u8 1, .int .u8 2] 5) = X := ⟨_, rfl⟩
  have hs1 : X1.heap.size = w.heap.size + 1 := by rw [← hX1]; simp
  obtain ⟨X2, hX2⟩ : ∃ X, X1.alloc (.cells #[.slice (some ⟨w.heap.size, 0, none⟩) 2 2, .slice none 0 0] 33) = X := ⟨_, rfl⟩
  have hs2 : X2.heap.size = w.heap.size + 1 + 1 := by rw [← hX2]; simp [hs1]
  have qs := bl_sto X2 (blCells xK (.slice (some ⟨w.heap.size + 1, 0, none⟩) 2 2)) (blCells_len _ _) (blCells_one rfl)
  rw [hs2, ← hX2, ← hX1] at qs
  have HX1 := Lib.hid hX1
  have HX2 := Lib.hid hX2
  have HS1 := Lib.hid hs1
  have HS2 := Lib.hid hs2
  clear hX1 hX2 hs1 hs2
  go_upto_region 2 with (first
    | (refine wpList_buildL rfl 23 [(0, _)] rfl (bytesOf 32 k9).toArray built_k9 ?_)
    | (refine wpList_buildL rfl 25 [(0, _), (1, _), (4, _)] rfl (hdCells xK).toArray built_xK ?_)
    | (refine wpList_buildL rfl 28 [(0, _), (1, _)] rfl _ (built_blK _ _ _) ?_)
    | (refine wpList_buildSlice rfl 33 5 2 _ rfl #[.int .u8 1, .int .u8 2] u0 _ Try.underlying33 HU0.out HY0.out (by rw [hy1]; omega) (by rw [hy1]; omega) (by simp only [List.map_toArray, List.map_cons, List.map_nil]; exact u8_fill2 _ _ u0 hy1) ?_)
    | (refine wpList_buildSlice rfl 26 33 2 _ rfl #[.slice (some ⟨w.heap.size, 0, none⟩) 2 2, .slice none 0 0] i0 _ Try.underlying26 HI0.out HZ0.out (by rw [hz1]; omega) (by rw [hz1]; omega) (by simp only [List.map_toArray, List.map_cons, List.map_nil]; exact sl_fill2 _ _ _ _ _ _ i0 hz1) ?_))
  rw [HX1.out, HX2.out]
  clear qs
  rw [← HS2.out]
  generalize hw1 : storeMid _ _ _ = w1
  obtain ⟨hb1, hh1⟩ := bl_end (blCells_len _ _) hw1
  have hu1 : Below w.heap.size w X1 ∧ Blk X1 w.heap.size 5 #[.int .u8 1, .int .u8 2] := by rw [← HX1.out]; exact ⟨(Below.refl _ _).alloc (Nat.le_refl _) _, heap_alloc_new _ _⟩
  have hu2 : Below X1.heap.size X1 X2 ∧ Blk X2 X1.heap.size 33 #[.slice (some ⟨w.heap.size, 0, none⟩) 2 2, .slice none 0 0] := by rw [← HX2.out]; exact ⟨(Below.refl _ _).alloc (Nat.le_refl _) _, heap_alloc_new _ _⟩
  have ht2 : TxsAt X2 (.slice (some ⟨w.heap.size + 1, 0, none⟩) 2 2) txK := by rw [← HS1.out]; exact txK_at (hu1.2.below hu2.1 hu1.2.lt) hu2.2
  have ht1 := ht2.below hb1
  obtain ⟨gb, hgb⟩ : ∃ gb, X2.heap.size = gb := ⟨_, rfl⟩
  obtain ⟨tv, htv⟩ : ∃ tv, Value.slice (some ⟨w.heap.size + 1, 0, none⟩) 2 2 = tv := ⟨_, rfl⟩
  rw [hgb, htv] at hh1
  rw [htv] at ht1
  rw [hgb]
  have HB1 : Hid (Below w.heap.size w w1) := Lib.hid ((hu1.1.trans (hu2.1.mono hu1.1.size)).trans (hb1.mono (by rw [HS2.out]; omega)))
  have HK1 := Lib.hid hh1
  have HT1 := Lib.hid ht1
  have HTV := Lib.hid ht1.oneCell
  have hrg := bl_rangeAll hh1
  have q1 := aggOk_mk hrg (blCells_len _ _)
  have q2 := loadN_eq hrg (blCells_len _ _)
  clear hw1 hb1 hh1 hu1 hu2 ht2 ht1 hgb htv hrg HX1 HX2 HS1 HS2
  go_wp2_with fail
  refine (benc_any w1 xK xK_fits tv txK HT1.out (fun _ => by decide)).mono ?_
  rintro e w2 ⟨hb2, he2⟩
  rcases he2 with ⟨_, v2, rfl, ho2⟩ | ⟨h, _⟩
  case inr => exact absurd encE_K h
  obtain ⟨F, hF⟩ : ∃ F, form xK txK = F := ⟨_, rfl⟩
  have hFl : F.length = 151 := by rw [← hF]; exact form_K
  obtain ⟨y, hy, hsame⟩ := decode_encode xK_fits encE_K
  rw [hF] at ho2 hy
  obtain ⟨A2, c2, he2⟩ := own_form (show w2.ownsRow w1.heap.size 5 1 v2 _ _ from ho2)
  subst he2
  rw [hFl] at ho2 ⊢
  have HF : Hid (F.length = 151) := Lib.hid hFl
  have HY : Hid (Wir.decode F = .ok (y, txK)) := Lib.hid hy
  have HSM := Lib.hid (same_cells hsame)
  have HB2 := Lib.hid (HB1.out.trans (hb2.mono HB1.out.size))
  have HK2 := Lib.hid (HK1.out.below hb2 HK1.out.lt)
  have HT2 := Lib.hid (HT1.out.below hb2)
  have HO2 := Lib.hid ho2
  clear hb2 ho2 hF hFl hy hsame q1 q2 HB1 HK1 HT1
  go_wp2_with fail
  refine (bdecode_any w2 _ F HO2.out.see (by rw [HF.out]; decide)).mono ?_
  rintro e w3 ⟨hb3, he3⟩
  rw [HY.out] at he3
  obtain ⟨tv2, rfl, ht3⟩ := he3
  have qs := bl_sto w3 (blCells y tv2) (blCells_len _ _) (blCells_one ht3.oneCell)
  have HB3 := Lib.hid (HB2.out.trans (hb3.mono HB2.out.size))
  have HK3 := Lib.hid (HK2.out.below hb3 HK2.out.lt)
  have HT3 := Lib.hid (HT2.out.below hb3)
  have HU3 := Lib.hid ht3
  clear hb3 ht3 HB2 HK2 HT2 HO2
  go_upto_region 4 with (fail)
  generalize hw4 : storeMid _ _ _ = w4
  obtain ⟨hb4, hh4⟩ := bl_end (blCells_len _ _) hw4
  obtain ⟨gc, hgc⟩ : ∃ gc, w3.heap.size = gc := ⟨_, rfl⟩
  rw [hgc] at hh4 ⊢
  have HB4 := Lib.hid (HB3.out.trans (hb4.mono HB3.out.size))
  have HK4 : Hid (KnS gb gc tv tv2 y w4) := Lib.hid ⟨bl_rangeAll (HK3.out.below hb4 HK3.out.lt), bl_rangeAll hh4⟩
  have HT4 := Lib.hid (HT3.out.below hb4)
  have HU4 := Lib.hid (HU3.out.below hb4)
  clear hw4 hb4 hh4 hgc qs HB3 HK3 HT3 HU3
  go_wp2_with (refine wpList_buildL rfl 28 [] rfl blZ blZ_built ?_)
  refine (benc_any w4 (hdPart [] 0) ⟨⟨by decide, by decide⟩, ⟨by decide, by decide⟩, ⟨by decide, by decide⟩⟩ (.slice none 0 0) [] (TxsAt.nil w4) (fun _ => by decide)).mono ?_
  rintro e w5 ⟨hb5, he5⟩
  rw [encE_Z] at he5
  rcases he5 with ⟨h, _⟩ | ⟨_, rfl⟩
  case inl => exact absurd h (by decide)
  have HB5 := Lib.hid (HB4.out.trans (hb5.mono HB4.out.size))
  have HK5 := Lib.hid (HK4.out.below hb5)
  have HT5 := Lib.hid (HT4.out.below hb5)
  have HU5 := Lib.hid (HU4.out.below hb5)
  clear hb5 HB4 HK4 HT4 HU4
  go_upto_region 5 with (fail)
  have hKS := HK5.out
  have hu := Try.underlying28
  have huh := Try.underlying25
  have ib := bl_sizeB xK tv
  have ic := bl_sizeB y tv2
  have ih := hd_sizeK xK
  have HEQ : Hid (∀ W (k : Ky), (binOp .eql 23 (keyV k) (keyV k)).run Try.prog W = .ok (.bool true) W) := Lib.hid (fun W k => by rw [run_keyEq, keyEq_refl])
  obtain ⟨kh, hkh⟩ : ∃ kh, hashK xK = kh := ⟨_, rfl⟩
  obtain ⟨kr, hkr⟩ : ∃ kr, rootT txK = kr := ⟨_, rfl⟩
  have eqh : ∀ W, (binOp .eql 23 (keyV kh) (keyV kh)).run Try.prog W = .ok (.bool true) W := fun W => HEQ.out W kh
  have eqr : ∀ W, (binOp .eql 23 (keyV kr) (keyV kr)).run Try.prog W = .ok (.bool true) W := fun W => HEQ.out W kr
  have HBC := Lib.hid (Below.refl w5.heap.size w5)
  have HH1 : Hid (∀ W, Calls Try.prog 20 #[hdV xK] W fun e w' => e = .returned (keyV kh) ∧ Below W.heap.size W w') := Lib.hid (fun W => by rw [← hkh]; exact bhash_any W xK xK_fits)
  have HH2 : Hid (∀ W, Calls Try.prog 21 #[hdV xK] W fun e w' => e = .returned (keyV kh) ∧ Below W.heap.size W w') := Lib.hid (fun W => by rw [← hkh]; exact rhash_any W xK xK_fits)
  have HR1 : Hid (∀ W, Below w5.heap.size w5 W → Calls Try.prog 22 #[tv] W fun e w' => e = .returned (keyV kr) ∧ Below W.heap.size W w') := Lib.hid (fun W hW => by rw [← hkr]; exact broot_any W tv txK (HT5.out.below hW) (by decide) (by decide))
  have HR2 : Hid (∀ W, Below w5.heap.size w5 W → Calls Try.prog 23 #[tv] W fun e w' => e = .returned (keyV kr) ∧ Below W.heap.size W w') := Lib.hid (fun W hW => by rw [← hkr]; exact rroot_t W tv txK (HT5.out.below hW) (by decide) (by decide))
  clear hkh hkr
  refine wp_region_noPanic ?_
  refine wp_region_held_drew (S := KnS gb gc tv tv2 y) (by kernel_rfl) hKS (fun hHeld => ?_)
  refine wpAnyH_take (i := 0) (oi := ⟨some 28, _, _, _, _, _⟩) (v := ?_) rfl (by kernel_rfl) (by kernel_rfl) (by kernel_rfl) (fun _ _ _ h => h) (Or.inl ⟨by kernel_rfl, ?_⟩) hHeld ?_
  rotate_left
  · intro w hSw
    (try dsimp only at hSw)
    go_simp
    all_goals (with_reducible rfl)
  conv => arg 8; simp only [Act.put, List.setIfInBounds_toArray, List.set_cons_zero, List.set_cons_succ]
  refine wpAnyH_take (i := 1) (oi := ⟨some 29, _, _, _, _, _⟩) (v := ?_) rfl (by kernel_rfl) (by kernel_rfl) (by kernel_rfl) (fun _ _ _ h => h) (Or.inl ⟨by kernel_rfl, ?_⟩) hHeld ?_
  rotate_left
  · intro w hSw
    (try dsimp only at hSw)
    go_simp
    all_goals (with_reducible rfl)
  conv => arg 8; simp only [Act.put, List.setIfInBounds_toArray, List.set_cons_zero, List.set_cons_succ]
  refine wpAnyH_take (i := 2) (oi := ⟨some 30, _, _, _, _, _⟩) (v := ?_) rfl (by kernel_rfl) (by kernel_rfl) (by kernel_rfl) (fun _ _ _ h => h) (Or.inl ⟨by kernel_rfl, ?_⟩) hHeld ?_
  rotate_left
  · intro w hSw
    (try dsimp only at hSw)
    go_simp
    all_goals (with_reducible rfl)
  conv => arg 8; simp only [Act.put, List.setIfInBounds_toArray, List.set_cons_zero, List.set_cons_succ]
  refine wpAnyH_take (i := 3) (oi := ⟨some 31, _, _, _, _, _⟩) (v := ?_) rfl (by kernel_rfl) (by kernel_rfl) (by kernel_rfl) (fun _ _ _ h => h) (Or.inl ⟨by kernel_rfl, ?_⟩) hHeld ?_
  rotate_left
  · intro w hSw
    (try dsimp only at hSw)
    go_simp
    all_goals (with_reducible rfl)
  conv => arg 8; simp only [Act.put, List.setIfInBounds_toArray, List.set_cons_zero, List.set_cons_succ]
  refine wpAnyH_take (i := 4) (oi := ⟨some 32, _, _, _, _, _⟩) (v := ?_) rfl (by kernel_rfl) (by kernel_rfl) (by kernel_rfl) (fun _ _ _ h => h) (Or.inl ⟨by kernel_rfl, ?_⟩) hHeld ?_
  rotate_left
  · intro w hSw
    (try dsimp only at hSw)
    go_simp
    all_goals (with_reducible rfl)
  conv => arg 8; simp only [Act.put, List.setIfInBounds_toArray, List.set_cons_zero, List.set_cons_succ]
  refine wpAnyH_take (i := 5) (oi := ⟨some 33, _, _, _, _, _⟩) (v := ?_) rfl (by kernel_rfl) (by kernel_rfl) (by kernel_rfl) (fun _ _ _ h => h) (Or.inl ⟨by kernel_rfl, ?_⟩) hHeld ?_
  rotate_left
  · intro w hSw
    (try dsimp only at hSw)
    go_simp
    all_goals (with_reducible rfl)
  conv => arg 8; simp only [Act.put, List.setIfInBounds_toArray, List.set_cons_zero, List.set_cons_succ]
  refine wpAnyH_take (i := 6) (oi := ⟨some 34, _, _, _, _, _⟩) (v := ?_) rfl (by kernel_rfl) (by kernel_rfl) (by kernel_rfl) (fun _ _ _ h => h) (Or.inl ⟨by kernel_rfl, ?_⟩) hHeld ?_
  rotate_left
  · intro w hSw
    (try dsimp only at hSw)
    go_simp
    all_goals (with_reducible rfl)
  conv => arg 8; simp only [Act.put, List.setIfInBounds_toArray, List.set_cons_zero, List.set_cons_succ]
  refine wpAnyH_take (i := 7) (oi := ⟨some 35, _, _, _, _, _⟩) (v := ?_) rfl (by kernel_rfl) (by kernel_rfl) (by kernel_rfl) (fun _ _ _ h => h) (Or.inl ⟨by kernel_rfl, ?_⟩) hHeld ?_
  rotate_left
  · intro w hSw
    (try dsimp only at hSw)
    go_simp
    all_goals (with_reducible rfl)
  conv => arg 8; simp only [Act.put, List.setIfInBounds_toArray, List.set_cons_zero, List.set_cons_succ]
  refine wpAnyH_take (i := 8) (oi := ⟨some 36, _, _, _, _, _⟩) (v := ?_) rfl (by kernel_rfl) (by kernel_rfl) (by kernel_rfl) (fun _ _ _ h => h) (Or.inl ⟨by kernel_rfl, ?_⟩) hHeld ?_
  rotate_left
  · intro w hSw
    (try dsimp only at hSw)
    go_simp
    all_goals (with_reducible rfl)
  conv => arg 8; simp only [Act.put, List.setIfInBounds_toArray, List.set_cons_zero, List.set_cons_succ]
  refine wpAnyH_take (i := 9) (oi := ⟨some 37, _, _, _, _, _⟩) (v := ?_) rfl (by kernel_rfl) (by kernel_rfl) (by kernel_rfl) (fun _ _ _ h => h) (Or.inl ⟨by kernel_rfl, ?_⟩) hHeld ?_
  rotate_left
  · intro w hSw
    (try dsimp only at hSw)
    go_simp
    all_goals (with_reducible rfl)
  conv => arg 8; simp only [Act.put, List.setIfInBounds_toArray, List.set_cons_zero, List.set_cons_succ]
  refine wpAnyH_take (i := 10) (oi := ⟨some 38, _, _, _, _, _⟩) (v := ?_) rfl (by kernel_rfl) (by kernel_rfl) (by kernel_rfl) (fun _ _ _ h => h) (Or.inl ⟨by kernel_rfl, ?_⟩) hHeld ?_
  rotate_left
  · intro w hSw
    (try dsimp only at hSw)
    go_simp
    all_goals (with_reducible rfl)
  conv => arg 8; simp only [Act.put, List.setIfInBounds_toArray, List.set_cons_zero, List.set_cons_succ]
  refine wpAnyH_take (i := 11) (oi := ⟨some 39, _, _, _, _, _⟩) (v := ?_) rfl (by kernel_rfl) (by kernel_rfl) (by kernel_rfl) (fun _ _ _ h => h) (Or.inl ⟨by kernel_rfl, ?_⟩) hHeld ?_
  rotate_left
  · intro w hSw
    (try dsimp only at hSw)
    go_simp
    all_goals (with_reducible rfl)
  conv => arg 8; simp only [Act.put, List.setIfInBounds_toArray, List.set_cons_zero, List.set_cons_succ]
  refine wpAnyH_take (i := 12) (oi := ⟨some 40, _, _, _, _, _⟩) (v := _) rfl (by kernel_rfl) (by kernel_rfl) (by kernel_rfl) (fun _ _ _ h => h) (yieldsIf_load_mid (S := KnS gb gc tv tv2 y) (by kernel_rfl) _ _ rfl _ _ rfl _ _ (fun w hSw => hSw.1) hu rfl ib) hHeld ?_
  conv => arg 8; simp only [Act.put, List.setIfInBounds_toArray, List.set_cons_zero, List.set_cons_succ]
  refine wpAnyH_take (i := 13) (oi := ⟨some 41, _, _, _, _, _⟩) (v := _) rfl (by kernel_rfl) (by kernel_rfl) (by kernel_rfl) (fun _ _ _ h => h) (yieldsIf_load_mid (S := KnS gb gc tv tv2 y) (by kernel_rfl) _ _ rfl _ _ rfl _ _ (fun w hSw => hSw.2) hu rfl ic) hHeld ?_
  conv => arg 8; simp only [Act.put, List.setIfInBounds_toArray, List.set_cons_zero, List.set_cons_succ]
  refine wpAnyH_ready (rs := [14]) (by kernel_rfl) (by simp) ?_
  refine AllReadyH.cons (o := ⟨some 42, _, _, _, _, _⟩) rfl (fun K hK => ?_) AllReadyH.nil
  refine ite_yes (by kernel_rfl) ?_
  go_simp
  go_at_call 15
  (with_reducible refine (same_block _ xK y tv tv2 txK HSM.out (HT5.out.below (belowDrewR (Below.refl _ _))) (HU5.out.below (belowDrewR (Below.refl _ _)))).mono ?_)
  rintro e w6 ⟨rfl, hb6⟩
  have HD6 := Lib.hid (below_step (a := w5) (belowDrewR (Below.refl _ _)) hb6)
  clear hb6
  refine hK.out _ _ (HK5.out.below HD6.out) (fun hHeld => ?_)
  clear hK K
  conv => arg 8; simp only [Act.put, List.setIfInBounds_toArray, List.set_cons_zero, List.set_cons_succ]
  refine wpAnyH_take (i := 15) (oi := ⟨some 43, _, _, _, _, _⟩) (v := ?_) rfl (by kernel_rfl) (by kernel_rfl) (by kernel_rfl) (fun _ _ _ h => h) (Or.inl ⟨by kernel_rfl, ?_⟩) hHeld ?_
  rotate_left
  · intro w hSw
    (try dsimp only at hSw)
    go_simp
    all_goals (with_reducible rfl)
  conv => arg 8; simp only [Act.put, List.setIfInBounds_toArray, List.set_cons_zero, List.set_cons_succ]
  refine wpAnyH_take (i := 16) (oi := ⟨some 44, _, _, _, _, _⟩) (v := ?_) rfl (by kernel_rfl) (by kernel_rfl) (by kernel_rfl) (fun _ _ _ h => h) (Or.inl ⟨by kernel_rfl, ?_⟩) hHeld ?_
  rotate_left
  · intro w hSw
    (try dsimp only at hSw)
    go_simp
    all_goals (with_reducible rfl)
  conv => arg 8; simp only [Act.put, List.setIfInBounds_toArray, List.set_cons_zero, List.set_cons_succ]
  refine wpAnyH_take (i := 17) (oi := ⟨some 45, _, _, _, _, _⟩) (v := ?_) rfl (by kernel_rfl) (by kernel_rfl) (by kernel_rfl) (fun _ _ _ h => h) (Or.inl ⟨by kernel_rfl, ?_⟩) hHeld ?_
  rotate_left
  · intro w hSw
    (try dsimp only at hSw)
    go_simp
    all_goals (with_reducible rfl)
  conv => arg 8; simp only [Act.put, List.setIfInBounds_toArray, List.set_cons_zero, List.set_cons_succ]
  refine wpAnyH_take (i := 18) (oi := ⟨some 46, _, _, _, _, _⟩) (v := ?_) rfl (by kernel_rfl) (by kernel_rfl) (by kernel_rfl) (fun _ _ _ h => h) (Or.inl ⟨by kernel_rfl, ?_⟩) hHeld ?_
  rotate_left
  · intro w hSw
    (try dsimp only at hSw)
    go_simp
    all_goals (with_reducible rfl)
  conv => arg 8; simp only [Act.put, List.setIfInBounds_toArray, List.set_cons_zero, List.set_cons_succ]
  refine wpAnyH_take (i := 19) (oi := ⟨some 47, _, _, _, _, _⟩) (v := ?_) rfl (by kernel_rfl) (by kernel_rfl) (by kernel_rfl) (fun _ _ _ h => h) (Or.inl ⟨by kernel_rfl, ?_⟩) hHeld ?_
  rotate_left
  · intro w hSw
    (try dsimp only at hSw)
    go_simp
    all_goals (with_reducible rfl)
  conv => arg 8; simp only [Act.put, List.setIfInBounds_toArray, List.set_cons_zero, List.set_cons_succ]
  refine wpAnyH_take (i := 20) (oi := ⟨some 48, _, _, _, _, _⟩) (v := ?_) rfl (by kernel_rfl) (by kernel_rfl) (by kernel_rfl) (fun _ _ _ h => h) (Or.inl ⟨by kernel_rfl, ?_⟩) hHeld ?_
  rotate_left
  · intro w hSw
    (try dsimp only at hSw)
    go_simp
    all_goals (with_reducible rfl)
  conv => arg 8; simp only [Act.put, List.setIfInBounds_toArray, List.set_cons_zero, List.set_cons_succ]
  refine wpAnyH_take (i := 21) (oi := ⟨some 49, _, _, _, _, _⟩) (v := ?_) rfl (by kernel_rfl) (by kernel_rfl) (by kernel_rfl) (fun _ _ _ h => h) (Or.inl ⟨by kernel_rfl, ?_⟩) hHeld ?_
  rotate_left
  · intro w hSw
    (try dsimp only at hSw)
    go_simp
    all_goals (with_reducible rfl)
  conv => arg 8; simp only [Act.put, List.setIfInBounds_toArray, List.set_cons_zero, List.set_cons_succ]
  refine wpAnyH_take (i := 22) (oi := ⟨some 50, _, _, _, _, _⟩) (v := _) rfl (by kernel_rfl) (by kernel_rfl) (by kernel_rfl) (fun _ _ _ h => h) (yieldsIf_load_mid (S := KnS gb gc tv tv2 y) (by kernel_rfl) _ _ rfl _ _ rfl _ _ (fun w hSw => hSw.hd) huh rfl ih) hHeld ?_
  conv => arg 8; simp only [Act.put, List.setIfInBounds_toArray, List.set_cons_zero, List.set_cons_succ]
  refine wpAnyH_take (i := 24) (oi := ⟨some 52, _, _, _, _, _⟩) (v := ?_) rfl (by kernel_rfl) (by kernel_rfl) (by kernel_rfl) (fun _ _ _ h => h) (Or.inl ⟨by kernel_rfl, ?_⟩) hHeld ?_
  rotate_left
  · intro w hSw
    (try dsimp only at hSw)
    go_simp
    all_goals (with_reducible rfl)
  conv => arg 8; simp only [Act.put, List.setIfInBounds_toArray, List.set_cons_zero, List.set_cons_succ]
  refine wpAnyH_take (i := 25) (oi := ⟨some 53, _, _, _, _, _⟩) (v := _) rfl (by kernel_rfl) (by kernel_rfl) (by kernel_rfl) (fun _ _ _ h => h) (yieldsIf_load_mid (S := KnS gb gc tv tv2 y) (by kernel_rfl) _ _ rfl _ _ rfl _ _ (fun w hSw => hSw.hd) huh rfl ih) hHeld ?_
  conv => arg 8; simp only [Act.put, List.setIfInBounds_toArray, List.set_cons_zero, List.set_cons_succ]
  refine wpAnyH_ready (rs := [23]) (by kernel_rfl) (by simp) ?_
  refine AllReadyH.cons (o := ⟨some 51, _, _, _, _, _⟩) rfl (fun K hK => ?_) AllReadyH.nil
  refine ite_yes (by kernel_rfl) ?_
  go_simp
  go_at_call 20
  (with_reducible refine (HH1.out _).mono ?_)
  rintro e w7 ⟨rfl, hb7⟩
  have HD7 := Lib.hid (HD6.out.trans (hb7.mono HD6.out.size))
  clear hb7
  refine hK.out _ _ (HK5.out.below HD7.out) (fun hHeld => ?_)
  clear hK K
  conv => arg 8; simp only [Act.put, List.setIfInBounds_toArray, List.set_cons_zero, List.set_cons_succ]
  refine wpAnyH_ready (rs := [26]) (by kernel_rfl) (by simp) ?_
  refine AllReadyH.cons (o := ⟨some 54, _, _, _, _, _⟩) rfl (fun K hK => ?_) AllReadyH.nil
  refine ite_yes (by kernel_rfl) ?_
  go_simp
  go_at_call 21
  (with_reducible refine (HH2.out _).mono ?_)
  rintro e w8 ⟨rfl, hb8⟩
  have HD8 := Lib.hid (HD7.out.trans (hb8.mono HD7.out.size))
  clear hb8
  refine hK.out _ _ (HK5.out.below HD8.out) (fun hHeld => ?_)
  clear hK K
  conv => arg 8; simp only [Act.put, List.setIfInBounds_toArray, List.set_cons_zero, List.set_cons_succ]
  refine wpAnyH_take (i := 27) (oi := ⟨some 55, _, _, _, _, _⟩) (v := ?_) rfl (by kernel_rfl) (by kernel_rfl) (by kernel_rfl) (fun _ _ _ h => h) (Or.inl ⟨by kernel_rfl, ?_⟩) hHeld ?_
  rotate_left
  · intro w hSw
    (try dsimp only at hSw)
    go_simp
    all_goals (with_reducible rfl)
  conv => arg 8; simp only [Act.put, List.setIfInBounds_toArray, List.set_cons_zero, List.set_cons_succ]
  refine wpAnyH_take (i := 28) (oi := ⟨some 56, _, _, _, _, _⟩) (v := ?_) rfl (by kernel_rfl) (by kernel_rfl) (by kernel_rfl) (fun _ _ _ h => h) (Or.inl ⟨by kernel_rfl, ?_⟩) hHeld ?_
  rotate_left
  · intro w hSw
    (try dsimp only at hSw)
    go_simp
    all_goals (with_reducible rfl)
  conv => arg 8; simp only [Act.put, List.setIfInBounds_toArray, List.set_cons_zero, List.set_cons_succ]
  refine wpAnyH_take (i := 29) (oi := ⟨some 57, _, _, _, _, _⟩) (v := ?_) rfl (by kernel_rfl) (by kernel_rfl) (by kernel_rfl) (fun _ _ _ h => h) (Or.inl ⟨by kernel_rfl, ?_⟩) hHeld ?_
  rotate_left
  · intro w hSw
    (try dsimp only at hSw)
    go_simp
    all_goals (with_reducible rfl)
  conv => arg 8; simp only [Act.put, List.setIfInBounds_toArray, List.set_cons_zero, List.set_cons_succ]
  refine wpAnyH_take (i := 30) (oi := ⟨some 58, _, _, _, _, _⟩) (v := ?_) rfl (by kernel_rfl) (by kernel_rfl) (by kernel_rfl) (fun _ _ _ h => h) (Or.inl ⟨by kernel_rfl, ?_⟩) hHeld ?_
  rotate_left
  · intro w hSw
    (try dsimp only at hSw)
    go_simp
    all_goals (with_reducible rfl)
  conv => arg 8; simp only [Act.put, List.setIfInBounds_toArray, List.set_cons_zero, List.set_cons_succ]
  refine wpAnyH_take (i := 31) (oi := ⟨some 59, _, _, _, _, _⟩) (v := ?_) rfl (by kernel_rfl) (by kernel_rfl) (by kernel_rfl) (fun _ _ _ h => h) (Or.inl ⟨by kernel_rfl, ?_⟩) hHeld ?_
  rotate_left
  · intro w hSw
    have htv := hSw.tv
    go_simp
    all_goals (with_reducible rfl)
  conv => arg 8; simp only [Act.put, List.setIfInBounds_toArray, List.set_cons_zero, List.set_cons_succ]
  refine wpAnyH_take (i := 33) (oi := ⟨some 61, _, _, _, _, _⟩) (v := ?_) rfl (by kernel_rfl) (by kernel_rfl) (by kernel_rfl) (fun _ _ _ h => h) (Or.inl ⟨by kernel_rfl, ?_⟩) hHeld ?_
  rotate_left
  · intro w hSw
    (try dsimp only at hSw)
    go_simp
    all_goals (with_reducible rfl)
  conv => arg 8; simp only [Act.put, List.setIfInBounds_toArray, List.set_cons_zero, List.set_cons_succ]
  refine wpAnyH_take (i := 34) (oi := ⟨some 62, _, _, _, _, _⟩) (v := ?_) rfl (by kernel_rfl) (by kernel_rfl) (by kernel_rfl) (fun _ _ _ h => h) (Or.inl ⟨by kernel_rfl, ?_⟩) hHeld ?_
  rotate_left
  · intro w hSw
    have htv := hSw.tv
    go_simp
    all_goals (with_reducible rfl)
  conv => arg 8; simp only [Act.put, List.setIfInBounds_toArray, List.set_cons_zero, List.set_cons_succ]
  refine wpAnyH_ready (rs := [32]) (by kernel_rfl) (by simp) ?_
  refine AllReadyH.cons (o := ⟨some 60, _, _, _, _, _⟩) rfl (fun K hK => ?_) AllReadyH.nil
  refine ite_yes (by kernel_rfl) ?_
  go_simp
  go_at_call 22
  (with_reducible refine (HR1.out _ HD8.out).mono ?_)
  rintro e w9 ⟨rfl, hb9⟩
  have HD9 := Lib.hid (HD8.out.trans (hb9.mono HD8.out.size))
  clear hb9
  refine hK.out _ _ (HK5.out.below HD9.out) (fun hHeld => ?_)
  clear hK K
  conv => arg 8; simp only [Act.put, List.setIfInBounds_toArray, List.set_cons_zero, List.set_cons_succ]
  refine wpAnyH_ready (rs := [35]) (by kernel_rfl) (by simp) ?_
  refine AllReadyH.cons (o := ⟨some 63, _, _, _, _, _⟩) rfl (fun K hK => ?_) AllReadyH.nil
  refine ite_yes (by kernel_rfl) ?_
  go_simp
  go_at_call 23
  (with_reducible refine (HR2.out _ HD9.out).mono ?_)
  rintro e w10 ⟨rfl, hb10⟩
  have HD10 := Lib.hid (HD9.out.trans (hb10.mono HD9.out.size))
  clear hb10
  refine hK.out _ _ (HK5.out.below HD10.out) (fun hHeld => ?_)
  clear hK K
  conv => arg 8; simp only [Act.put, List.setIfInBounds_toArray, List.set_cons_zero, List.set_cons_succ]
  refine wpAnyH_take (i := 36) (oi := ⟨some 64, _, _, _, _, _⟩) (v := ?_) rfl (by kernel_rfl) (by kernel_rfl) (by kernel_rfl) (fun _ _ _ h => h) (Or.inl ⟨by kernel_rfl, ?_⟩) hHeld ?_
  rotate_left
  · intro w hSw
    (try dsimp only at hSw)
    go_simp
    all_goals (with_reducible rfl)
  conv => arg 8; simp only [Act.put, List.setIfInBounds_toArray, List.set_cons_zero, List.set_cons_succ]
  refine wpAnyH_take (i := 37) (oi := ⟨some 65, _, _, _, _, _⟩) (v := ?_) rfl (by kernel_rfl) (by kernel_rfl) (by kernel_rfl) (fun _ _ _ h => h) (Or.inl ⟨by kernel_rfl, ?_⟩) hHeld ?_
  rotate_left
  · intro w hSw
    (try dsimp only at hSw)
    go_simp
    all_goals (with_reducible rfl)
  conv => arg 8; simp only [Act.put, List.setIfInBounds_toArray, List.set_cons_zero, List.set_cons_succ]
  refine wpAnyH_take (i := 38) (oi := ⟨some 0, _, _, _, _, _⟩) (v := ?_) rfl (by kernel_rfl) (by kernel_rfl) (by kernel_rfl) (fun _ _ _ h => h) (Or.inl ⟨by kernel_rfl, ?_⟩) hHeld ?_
  rotate_left
  · intro w hSw
    (try dsimp only at hSw)
    go_simp
    all_goals (with_reducible rfl)
  conv => arg 8; simp only [Act.put, List.setIfInBounds_toArray, List.set_cons_zero, List.set_cons_succ]
  refine wpAnyH_done (by kernel_rfl) ?_ _
  refine NoPanic.normal ?_
  have HBZ := Lib.hid (HB5.out.trans (HD10.out.mono HB5.out.size))
  go_wp2_with fail
  go_ret
  exact ⟨rfl, HBZ.out⟩
end Go.Proofs.Ytnhggaghidbniaa
