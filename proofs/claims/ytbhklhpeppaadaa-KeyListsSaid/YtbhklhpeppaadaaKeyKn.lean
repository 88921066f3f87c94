/- The example of chapter 5; KeyOf. -/
import Derived.Test.YtbhklhpeppaadaaKeyDs
import Derived.Test.YtbhklhpeppaadaaKeyCmp
import Derived.Test.YtbhklhpeppaadaaKeyPr
namespace Go.Proofs.Ytbhklhpeppaadaa
open Go.RowKit
set_option linter.unusedVariables false
set_option linter.unusedSimpArgs false
open ShaW Sha

theorem unK_hexL (k : Ky) (i : Nat) (hi : i < 32) : unK (hexL k 32) i = k i := by
  obtain ⟨h1, h2⟩ := hexL_get k 32 i hi
  have hb := (k i).toNat_lt
  have e1 : unD ((hexL k 32).getD (2 * i) 0) = some ((k i).toNat / 16) := by rw [List.getD_eq_getElem?_getD, h1]; exact unD_hexD _ (by omega)
  have e2 : unD ((hexL k 32).getD (2 * i + 1) 0) = some ((k i).toNat % 16) := by rw [List.getD_eq_getElem?_getD, h2]; exact unD_hexD _ (by omega)
  have := unK_toNat e1 e2
  exact UInt8.toNat_inj.1 (by rw [this]; omega)
theorem ok_hexL (k : Ky) : okL (hexL k 32) 64 := fun i hi => by
  obtain ⟨h1, h2⟩ := hexL_get k 32 (i / 2) (by omega)
  have hb := (k (i / 2)).toNat_lt
  rcases (show i = 2 * (i / 2) ∨ i = 2 * (i / 2) + 1 by omega) with h | h
  · rw [h, List.getD_eq_getElem?_getD, h1]
    show (unD (hexD _)).isSome = true
    rw [unD_hexD _ (by omega)]; rfl
  · rw [h, List.getD_eq_getElem?_getD, h2]
    show (unD (hexD _)).isSome = true
    rw [unD_hexD _ (by omega)]; rfl
theorem bytes_unK (k : Ky) : bytesOf 32 (unK (hexL k 32)) = bytesOf 32 k := by
  unfold bytesOf
  refine List.map_congr_left (fun j hj => ?_)
  rw [unK_hexL k j (List.mem_range.1 hj)]
/-- the digest of nothing -/
def eK : Ky := sha 0 (fun _ => 0)
theorem eK0 : eK 0 = 227 := by decide +kernel
theorem eK1 : eK 1 = 176 := by decide +kernel
theorem eK2 : eK 2 = 196 := by decide +kernel
theorem eK3 : eK 3 = 66 := by decide +kernel
theorem eK_text : (⟨(hexL eK 32).toArray⟩ : ByteArray).extract 0 8 = ⟨#[101, 51, 98, 48, 99, 52, 52, 50]⟩ := by
  apply ByteArray.ext
  rw [ByteArray.data_extract]
  apply Array.ext'
  rw [Array.toList_extract]
  refine List.ext_getElem? fun i => ?_
  have g0 := hexL_get eK 32 0 (by omega)
  have g1 := hexL_get eK 32 1 (by omega)
  have g2 := hexL_get eK 32 2 (by omega)
  have g3 := hexL_get eK 32 3 (by omega)
  rw [eK0] at g0
  rw [eK1] at g1
  rw [eK2] at g2
  rw [eK3] at g3
  show (((hexL eK 32).drop 0).take (8 - 0))[i]? = _
  rw [List.drop_zero]
  rcases Nat.lt_or_ge i 8 with h | h
  · rw [List.getElem?_take, if_pos (by omega)]
    rcases (show i = 0 ∨ i = 1 ∨ i = 2 ∨ i = 3 ∨ i = 4 ∨ i = 5 ∨ i = 6 ∨ i = 7 by omega) with rfl | rfl | rfl | rfl | rfl | rfl | rfl | rfl
    · exact g0.1.trans (by decide)
    · exact g0.2.trans (by decide)
    · exact g1.1.trans (by decide)
    · exact g1.2.trans (by decide)
    · exact g2.1.trans (by decide)
    · exact g2.2.trans (by decide)
    · exact g3.1.trans (by decide)
    · exact g3.2.trans (by decide)
  · rw [List.getElem?_eq_none (by simp; omega), List.getElem?_eq_none (by simpa using h)]

set_option maxRecDepth 100000 in
set_option maxHeartbeats 1000000 in
theorem kof_any (w : World) (A : Option Addr) (n c : Nat) (f : Nat → UInt8) (hr : Reads w w.heap.size 1 A n (bytesOf n f)) (hn : n ≤ 1048576) :
    Calls Try.prog 8 #[.slice A n c] w fun e w' => e = .returned (keyV (sha n f)) ∧ Below w.heap.size w w' := by
  have HR := Lib.hid hr
  clear hr
  go_enter Try.func8, Try.ntmps8
  go_wp2_with fail
  generalize hwa : World.alloc w _ = wa
  have hb0 : Below w.heap.size w wa := by rw [← hwa]; exact (Below.refl _ _).alloc (Nat.le_refl _) _
  have hk2 : Blk wa w.heap.size 25 (bytesOf 32 (fun _ => 0)).toArray := by rw [← hwa, ← zero_key]; exact Blk.new w _ _
  have HB0 := Lib.hid hb0
  have HK2 := Lib.hid hk2
  have hz0 := hb0.size
  have HRA := Lib.hid ((HR.out.below hb0).more hz0)
  clear hwa hb0 hk2
  refine (sum_any wa A n c f HRA.out (by omega)).mono ?_
  rintro e w1 ⟨rfl, hb1⟩
  obtain ⟨kk, hkk⟩ : ∃ k, sha n f = k := ⟨_, rfl⟩
  rw [hkk]
  have HKK := Lib.hid hkk
  have HB1 := Lib.hid (HB0.out.trans (hb1.mono hz0))
  have HK1 := Lib.hid (HK2.out.below hb1 HK2.out.lt)
  clear hkk hb1
  go_wp2_with (refine wpList_store_rowTo rfl 25 (.tmp 2) (.tmp 4) rfl rfl w.heap.size (bytesOf 32 kk).toArray rfl rfl _ _ HK1.out (by rw [keyV_size]; kernel_rfl) (by rw [keyV_size, keyV_size]) (keyV_one _) ?_)
  exact bodyPost_ret (results_cell_row rfl _ _ w.heap.size _ (bytesOf 32 kk).toArray (0, 0) _ rfl (setRow_same _ _ _ _ _ HK1.out) Try.underlying25 rfl (by rw [keyV_size]; kernel_rfl)) rfl ⟨by rw [HKK.out], below_setRow HB1.out (Nat.le_refl _) _⟩

theorem str_cut8 (s X : ByteArray) (hs : s.size = 64) (hx : s.extract 0 8 = X) (W : World) : (Instr.sliceAt 9 (.string s) none (some (.int .i64 8)) none).run Try.prog W = .ok (.string X) W := by
  have h8 : (Instr.sliceBounds false s.size s.size none (some (.int .i64 8)) none).run Try.prog W = .ok (0, 8, s.size) W := by
    rw [hs]
    rfl
  simp only [Instr.sliceAt, Instr.slice, Sem.run_bind, run_underlying Try.underlying9 W, Result.andThen_ok, Option.isSome_none, Bool.false_eq_true, if_false, h8, Sem.run_pure, hx]
theorem key_fill2 (k : Ky) (ie : TypeInfo) (hs : ie.size = 32) : Instr.fill (fun i => some (i * ie.size, ie.size)) ((Array.range (2 * ie.size)).map ((Value.agg (Array.replicate 32 (.int .u8 0))).cells[· % (Value.agg (Array.replicate 32 (.int .u8 0))).cells.size]!)) [(0, .agg #[.int .u8 0, .int .u8 0, .int .u8 0, .int .u8 0, .int .u8 0, .int .u8 0, .int .u8 0, .int .u8 0, .int .u8 0, .int .u8 0, .int .u8 0, .int .u8 0, .int .u8 0, .int .u8 0, .int .u8 0, .int .u8 0, .int .u8 0, .int .u8 0, .int .u8 0, .int .u8 0, .int .u8 0, .int .u8 0, .int .u8 0, .int .u8 0, .int .u8 0, .int .u8 0, .int .u8 0, .int .u8 0, .int .u8 0, .int .u8 0, .int .u8 0, .int .u8 0]), (1, .agg (bytesOf 32 k).toArray)] = some (bytesOf 32 k0 ++ bytesOf 32 k).toArray := by
  rw [hs]
  kernel_rfl

theorem wpList_buildSlice_g {P : Program} {ops : Array Oper} {rest : List Oper} {o : Oper} {a : Act} {w : World} {Q : Exit → Act → World → Prop} (hw : Region.wanted o (yielded ops a.tmps) = true) (t e : TypeId) (len : Nat) (parts : Array (Nat × Operand)) (ho : o.op = .buildSlice t len parts)
    (cells : Array Value) (ie : TypeInfo) (z : Value)
    (hu : P.underlying t = some (.slice e)) (hie : P.info? e = some ie) (hz : ie.zero = some z) (hsmall : ¬ len * ie.size > 2 ^ 24) (hpos : ¬ len * ie.size = 0)
    (hf : Instr.fill (fun i => some (i * ie.size, ie.size)) ((Array.range (len * ie.size)).map (z.cells[· % z.cells.size]!)) (parts.map fun (i, x) => (i, a.eval x)).toList = some cells)
    (h : wpList P ops Q rest (a.put o.dst (.slice (some ⟨w.heap.size, 0, none⟩) len len)) (w.alloc (.cells cells e))) : wpList P ops Q (o :: rest) a w :=
  wpList_step fun K hK => by
    rw [if_pos hw]
    exact wp_buildSlice t e len parts ho cells ie z hu hie hz hsmall hpos hf (hK _ _ h)
theorem two_keys (w4 : World) (k : Ky) : KeysAt (w4.alloc (.cells (bytesOf 32 k0 ++ bytesOf 32 k).toArray 25)) (some ⟨w4.heap.size, 0, none⟩) 2 2 [k0, k] := by
  refine ⟨rfl, Nat.le_refl _, by omega, w4.heap.size, 0, fun _ => rfl, fun j u hu => ?_⟩
  rw [Nat.zero_add, lit_cell]
  refine List.getElem?_toArray.trans ?_
  rw [show keysOf [k0, k] = bytesOf 32 k0 ++ bytesOf 32 k by rw [show [k0, k] = [k0] ++ [k] from rfl, keysOf_append, keysOf_one, keysOf_one]] at hu
  exact hu
theorem has_two (k : Ky) : hasK [k0, k] k = true := by
  show (keyEq k0 k || (keyEq k k || false)) = true
  rw [keyEq_refl, Bool.true_or, Bool.or_true]
set_option maxRecDepth 100000 in
set_option maxHeartbeats 4000000 in
attribute [local go_sem ↓] wp_load_k in
theorem known_any (w : World) : Calls Try.prog 7 #[] w fun e w' => e = .returned (.bool true) ∧ Below w.heap.size w w' := by
  obtain ⟨i0, hi0, hz0, hz1, hz2⟩ := info_parts key_info
  have HI0 := Lib.hid hi0
  have HZ0 := Lib.hid hz0
  have HZ1 := Lib.hid hz1
  clear hi0 hz0 hz1 hz2
  have hof : ∀ W, Calls Try.prog 8 #[.slice none 0 0] W fun e w' => e = .returned (keyV eK) ∧ Below W.heap.size W w' := fun W => kof_any W none 0 0 (fun _ => 0) Reads.none_ (by omega)
  have hlen := hexL_length eK 32
  have htx := eK_text
  have hun : keyV (unK (hexL eK 32)) = keyV eK := congrArg (fun l : List Value => Value.agg l.toArray) (bytes_unK eK)
  have hok := ok_hexL eK
  obtain ⟨k, hk⟩ : ∃ k, eK = k := ⟨_, rfl⟩
  rw [hk] at hof hlen htx hun hok
  have hfm := fun W => format_any W k
  obtain ⟨s, hs⟩ : ∃ s : ByteArray, (⟨(hexL k 32).toArray⟩ : ByteArray) = s := ⟨_, rfl⟩
  have hsl : s.data.toList = hexL k 32 := by rw [← hs]
  have hps := fun W => parse_any W s (by rw [hsl, hlen]; omega)
  rw [hs] at htx hfm
  rw [hsl] at hps
  have hss : s.size = 64 := by rw [← hs]; show (hexL k 32).toArray.size = 64; rw [List.size_toArray, hlen]
  have HOF := Lib.hid hof
  have HFM := Lib.hid hfm
  have HPS := Lib.hid hps
  have HUN := Lib.hid hun
  have HOK := Lib.hid hok
  have HLEN := Lib.hid hlen
  have HSS := Lib.hid hss
  have HTX := Lib.hid htx
  clear hof hfm hps hun hok hlen htx hk hs hsl hss
  go_enter Try.func7, Try.ntmps7
  go_wp2_with fail
  refine (HOF.out w).mono ?_
  rintro e w1 ⟨rfl, hb1⟩
  have HB1 := Lib.hid hb1
  have hz1' := hb1.size
  clear hb1
  go_wp2_with (refine wpList_store_rowTo rfl 25 (.tmp 1) (.tmp 5) rfl rfl w1.heap.size (bytesOf 32 k).toArray rfl rfl _ _ (heap_alloc_new _ _) (by rw [keyV_size]; kernel_rfl) (by rw [keyV_size]; kernel_rfl) (keyV_one _) ?_
               generalize hwc : World.setRow _ _ _ = wc
               have hk1 : Blk wc w1.heap.size 25 (bytesOf 32 k).toArray := by rw [← hwc]; exact setRow_same _ _ _ _ _ (heap_alloc_new _ _)
               have hbc : Below w.heap.size w wc := by rw [← hwc]; exact below_setRow (HB1.out.alloc hz1' _) hz1' _
               have HK1 := Lib.hid hk1
               have HBC := Lib.hid hbc
               have r1 := keyOk_mk (blk_key hk1)
               have r2 := loadK_eq (blk_key hk1)
               have hzc := hbc.size
               clear hwc hk1 hbc)
  refine (HFM.out wc).mono ?_
  rintro e w2 ⟨rfl, hb2⟩
  have HB2 := Lib.hid (HBC.out.trans (hb2.mono hzc))
  have HK2 := Lib.hid (HK1.out.below hb2 HK1.out.lt)
  clear hb2 r1 r2
  go_wp2_with fail
  refine (HPS.out w2).mono ?_
  rintro e w3 ⟨kp, er, rfl, hb3, hpp⟩
  obtain ⟨rfl, rfl⟩ : kp = unK (hexL k 32) ∧ er = 0 := by
    rcases hpp with ⟨_, _, h1, h2⟩ | ⟨h1, _⟩
    · exact ⟨h1, h2⟩
    · exact absurd ⟨HLEN.out, HOK.out⟩ h1
  rw [HUN.out]
  have HB3 := Lib.hid (HB2.out.trans (hb3.mono HB2.out.size))
  have HK3 := Lib.hid (HK2.out.below hb3 HK2.out.lt)
  have hz3 := HB3.out.size
  have hl3 := HK3.out.lt
  have hsl : ∀ W, (Instr.sliceAt 9 (.string s) none (some (.int .i64 8)) none).run Try.prog W = .ok (.string ⟨#[101, 51, 98, 48, 99, 52, 52, 50]⟩) W := fun W => by
    exact str_cut8 s _ HSS.out HTX.out W
  have heq : ∀ W, (binOp .eql 25 (keyV k) (keyV k)).run Try.prog W = .ok (.bool true) W := fun W => by rw [run_keyEq, keyEq_refl]
  have h64 : ((s.size : Int) == 64) = true := by rw [HSS.out]; rfl
  have hcm : Hid (∀ W, Calls Try.prog 10 #[keyV k, keyV k] W fun e w' => e = .returned (.int .i64 0) ∧ Below W.heap.size W w') := fun W => by
    have := kcompare_any W k k
    rw [cmp_same k k (fun _ _ => rfl)] at this
    exact this
  clear hb3 hpp
  go_wp2_with (refine wpList_store_rowTo rfl 25 (.tmp 3) (.tmp 11) rfl rfl w3.heap.size (bytesOf 32 k).toArray rfl rfl _ _ (heap_alloc_new _ _) (by rw [keyV_size]; kernel_rfl) (by rw [keyV_size]; kernel_rfl) (keyV_one _) ?_
               generalize hwd : World.setRow _ _ _ = wd
               have hk3 : Blk wd w3.heap.size 25 (bytesOf 32 k).toArray := by rw [← hwd]; exact setRow_same _ _ _ _ _ (heap_alloc_new _ _)
               have hk1 : Blk wd w1.heap.size 25 (bytesOf 32 k).toArray := by rw [← hwd]; exact (setRow_other _ _ _ _ (by omega)).trans (HK3.out.alloc _)
               have hbc : Below w.heap.size w wd := by rw [← hwd]; exact below_setRow (HB3.out.alloc hz3 _) hz3 _
               have HK4 := Lib.hid hk1
               have HBD := Lib.hid hbc
               have s1 := keyOk_mk (blk_key hk1)
               have s2 := loadK_eq (blk_key hk1)
               have s3 := keyOk_mk (blk_key hk3)
               have s4 := loadK_eq (blk_key hk3)
               have hzd := hbc.size
               clear hwd hk1 hk3 hbc)
  refine (hcm.out wd).mono ?_
  rintro e w4 ⟨rfl, hb4⟩
  have HB4 := Lib.hid (HBD.out.trans (hb4.mono hzd))
  have hk5 := HK4.out.below hb4 HK4.out.lt
  have HK5 := Lib.hid hk5
  have t1 := keyOk_mk (blk_key hk5)
  have t2 := loadK_eq (blk_key hk5)
  have hz4 := HB4.out.size
  have hlst := Lib.hid (two_keys w4 k)
  have hk6 : Blk (w4.alloc (.cells (bytesOf 32 k0 ++ bytesOf 32 k).toArray 25)) w1.heap.size 25 (bytesOf 32 k).toArray := hk5.alloc _
  have u1 := keyOk_mk (blk_key hk6)
  have u2 := loadK_eq (blk_key hk6)
  clear hb4 hk5 hk6 s1 s2 s3 s4
  go_wp2_with (refine wpList_buildSlice_g (by rfl) 36 25 2 _ rfl (bytesOf 32 k0 ++ bytesOf 32 k).toArray i0 _ Try.underlying36 HI0.out HZ0.out (by rw [HZ1.out]; omega) (by rw [HZ1.out]; omega) (by simp only [List.map_toArray, List.map_cons, List.map_nil]; exact key_fill2 k i0 HZ1.out) ?_)
  have hh := khas_any _ _ 2 2 [k0, k] k hlst.out
  rw [has_two] at hh
  refine hh.mono ?_
  clear hh
  rintro e w5 ⟨rfl, hb5⟩
  have HB5 := Lib.hid ((HB4.out.alloc hz4 _).trans (hb5.mono (by simp; omega)))
  clear hb5 u1 u2 t1 t2
  go_wp2_with fail
  have hdd := kdistinct_any w5 none 0 0 [] ⟨rfl, Nat.le_refl _, by omega, 0, 0, fun h => absurd h (by omega), fun j u hu => by simp [keysOf] at hu⟩ (by omega)
  rw [show distK [] = true from rfl] at hdd
  refine hdd.mono ?_
  clear hdd
  rintro e w6 ⟨rfl, hb6⟩
  have HB6 := Lib.hid (HB5.out.trans (hb6.mono HB5.out.size))
  clear hb6
  go_wp2_with fail
  go_ret
  exact ⟨rfl, HB6.out⟩
end Go.Proofs.Ytbhklhpeppaadaa
