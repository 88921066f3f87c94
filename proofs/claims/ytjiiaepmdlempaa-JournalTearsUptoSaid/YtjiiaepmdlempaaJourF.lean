/- Append and AppendLog of a journal. -/
import Derived.Test.YtjiiaepmdlempaaJourE
namespace Go.Proofs.Ytjiiaepmdlempaa
open Go.RowKit
set_option linter.unusedVariables false
open ShaW Sha

theorem lenB_0 (m : Nat) : (((lenB m 0).toNat : Nat) : Int) = (m : Int) / 16777216 % 256 := by
  unfold lenB; rw [UInt8.toNat_ofNat', show (2 : Nat) ^ (24 - 8 * 0) = 16777216 from rfl]; omega
theorem lenB_1 (m : Nat) : (((lenB m 1).toNat : Nat) : Int) = (m : Int) / 65536 % 256 := by
  unfold lenB; rw [UInt8.toNat_ofNat', show (2 : Nat) ^ (24 - 8 * 1) = 65536 from rfl]; omega
theorem lenB_2 (m : Nat) : (((lenB m 2).toNat : Nat) : Int) = (m : Int) / 256 % 256 := by
  unfold lenB; rw [UInt8.toNat_ofNat', show (2 : Nat) ^ (24 - 8 * 2) = 256 from rfl]; omega
theorem lenB_3 (m : Nat) : (((lenB m 3).toNat : Nat) : Int) = (m : Int) % 256 := by
  unfold lenB; rw [UInt8.toNat_ofNat', show (2 : Nat) ^ (24 - 8 * 3) = 1 from rfl]; omega
/-- a log with one record more -/
def logNext (n : Nat) (f : Nat → UInt8) (m : Nat) (g : Nat → UInt8) : Nat → UInt8 := glue n f (recF m g)

def aL (n1 n2 : Nat) : Nat → Nat
  | 0 => n1
  | 1 => 4
  | 2 => 4
  | _ => n2
def aF (f g : Nat → UInt8) (n2 : Nat) : Nat → Nat → UInt8
  | 0 => f
  | 1 => lenB n2
  | 2 => sha n2 g
  | _ => g
def aA (A1 A2 : Option Addr) (b : Nat) : Nat → Option Addr
  | 0 => A1
  | 1 => some ⟨b + 1, 0, none⟩
  | 2 => some ⟨b, 0, none⟩
  | _ => A2
def aC (c1 c2 : Nat) : Nat → Nat
  | 0 => c1
  | 1 => 4
  | 2 => 32
  | _ => c2
theorem aLen (n1 n2 : Nat) : catLen (aL n1 n2) 4 = n1 + (8 + n2) := by
  simp only [catLen, aL]
  omega
theorem aCat (n1 n2 : Nat) (f g : Nat → UInt8) (j : Nat) : catF (aL n1 n2) (aF f g n2) 4 j = logNext n1 f n2 g j := by
  have e0 : catLen (aL n1 n2) 0 = 0 := rfl
  have e1 : catLen (aL n1 n2) 1 = n1 := by simp only [catLen, aL]; omega
  have e2 : catLen (aL n1 n2) 2 = n1 + 4 := by simp only [catLen, aL]; omega
  have e3 : catLen (aL n1 n2) 3 = n1 + 8 := by simp only [catLen, aL]; omega
  have x : catF (aL n1 n2) (aF f g n2) 4 = glue (n1 + 8) (glue (n1 + 4) (glue n1 (glue 0 (fun _ => 0) f) (lenB n2)) (sha n2 g)) g := by
    show glue (catLen (aL n1 n2) 3) (glue (catLen (aL n1 n2) 2) (glue (catLen (aL n1 n2) 1) (glue (catLen (aL n1 n2) 0) _ _) _) _) _ = _
    rw [e0, e1, e2, e3]
    rfl
  rw [x]
  unfold logNext recF glue
  dsimp only
  by_cases h1 : j < n1
  · rw [if_pos (by omega), if_pos (by omega), if_pos h1, if_neg (by omega), if_pos h1, Nat.sub_zero]
  · by_cases h2 : j < n1 + 4
    · rw [if_pos (by omega), if_pos h2, if_neg h1, if_neg h1, if_pos (by omega)]
    · by_cases h3 : j < n1 + 8
      · rw [if_pos h3, if_neg h2, if_neg h1, if_neg (by omega), if_pos (by omega), show j - (n1 + 4) = j - n1 - 4 by omega]
      · rw [if_neg h3, if_neg h1, if_neg (by omega), if_neg (by omega), show j - (n1 + 8) = j - n1 - 8 by omega]

set_option maxRecDepth 100000 in
set_option maxHeartbeats 1000000 in
theorem append_ok (w : World) (A1 A2 : Option Addr) (n1 c1 n2 c2 : Nat) (f g : Nat → UInt8) (hr1 : Reads w w.heap.size 1 A1 n1 (bytesOf n1 f)) (hr2 : Reads w w.heap.size 1 A2 n2 (bytesOf n2 g)) (h2 : n2 ≤ 2097152) (h12 : n1 + 8 + n2 ≤ 16777216) :
    Calls Try.prog 10 #[.slice A1 n1 c1, .slice A2 n2 c2] w fun e w' => ∃ A' c', e = .returned (.tuple #[.slice A' (n1 + (8 + n2)) c', .int .i64 0]) ∧ Below w.heap.size w w' ∧ w'.ownsRow w.heap.size 5 1 (.slice A' (n1 + (8 + n2)) c') (n1 + (8 + n2)) (bytesOf (n1 + (8 + n2)) (logNext n1 f n2 g)) := by
  have q0 : ¬ (2097152 : Int) < n2 := by omega
  have q1 : ¬ (16777216 : Int) < n1 + 8 + n2 := by omega
  have HR1 := Lib.hid hr1
  have HR2 := Lib.hid hr2
  clear hr1 hr2
  go_enter Try.func10, Try.ntmps10
  go_wp2_with fail
  refine (sum_any _ _ _ _ g HR2.out (by omega)).mono ?_
  rintro e w1 ⟨rfl, hb1⟩
  obtain ⟨kk, hkk⟩ : ∃ k, sha n2 g = k := ⟨_, rfl⟩
  rw [hkk]
  have HKK := Lib.hid hkk
  have HB1 := Lib.hid hb1
  clear hkk hb1
  go_wp2_with (refine wpList_store_rowTo rfl 41 (.tmp 7) (.tmp 22) rfl rfl w1.heap.size (bytesOf 32 kk).toArray rfl rfl _ _ (heap_alloc_new _ _) (by rw [keyV_size]; kernel_rfl) (by rw [keyV_size]; kernel_rfl) (keyV_one _) ?_)
  generalize hwa : World.alloc (World.alloc (World.setRow _ _ _) _) _ = wa
  have hz1 := HB1.out.size
  have hba : Below w.heap.size w wa := by
    rw [← hwa]
    exact ((below_setRow (HB1.out.alloc HB1.out.size _) HB1.out.size _).alloc (by simp; omega) _).alloc (by simp; omega) _
  have k0 : Blk wa w1.heap.size 41 (bytesOf 32 kk).toArray := by
    rw [← hwa]
    exact Blk.alloc (Blk.alloc (setRow_same _ _ _ _ _ (heap_alloc_new _ _)) _) _
  have k1 : Blk wa (w1.heap.size + 1) 5 #[.int .u8 ((n2 : Int) / 16777216), .int .u8 ((n2 : Int) / 65536), .int .u8 ((n2 : Int) / 256 % 256), .int .u8 ((n2 : Int) % 256)] := by
    rw [← hwa]
    exact Blk.alloc (heap_alloc_at _ _ _ (by simp)) _
  have k2 : Blk wa (w1.heap.size + 1 + 1) 22 #[.slice A1 n1 c1, .slice (some ⟨w1.heap.size + 1, 0, none⟩) 4 4, .slice (some ⟨w1.heap.size, 0, none⟩) 4 32, .slice A2 n2 c2] := by
    rw [← hwa]
    exact heap_alloc_at _ _ _ (by simp)
  clear hwa
  have hcall := concat_any wa (w1.heap.size + 1 + 1) 0 4 4 (aA A1 A2 w1.heap.size) (aL n1 n2) (aC c1 c2) (aF f g n2) (by omega) (by
    intro r hr
    have : r = 0 ∨ r = 1 ∨ r = 2 ∨ r = 3 := by omega
    rcases this with rfl | rfl | rfl | rfl
    · exact ⟨(k2.cell 0), (HR1.out.below hba).more hba.size⟩
    · refine ⟨(k2.cell 1), Reads.flat (o := 0) (fun _ => ⟨rfl, k1.lt⟩) (fun j hj => ?_)⟩
      have hj : j < 4 := hj
      have : j = 0 ∨ j = 1 ∨ j = 2 ∨ j = 3 := by omega
      rcases this with rfl | rfl | rfl | rfl
      · exact (k1.cell 0).trans (by show some (Value.int .u8 ((n2 : Int) / 16777216)) = some (Value.int .u8 (((lenB n2 0).toNat : Nat) : Int)); rw [lenB_0]; congr 2; omega)
      · exact (k1.cell 1).trans (by show some (Value.int .u8 ((n2 : Int) / 65536)) = some (Value.int .u8 (((lenB n2 1).toNat : Nat) : Int)); rw [lenB_1]; congr 2; omega)
      · exact (k1.cell 2).trans (by show some (Value.int .u8 ((n2 : Int) / 256 % 256)) = some (Value.int .u8 (((lenB n2 2).toNat : Nat) : Int)); rw [lenB_2])
      · exact (k1.cell 3).trans (by show some (Value.int .u8 ((n2 : Int) % 256)) = some (Value.int .u8 (((lenB n2 3).toNat : Nat) : Int)); rw [lenB_3])
    · refine ⟨(k2.cell 2), Reads.flat (o := 0) (fun _ => ⟨rfl, k0.lt⟩) (fun j hj => ?_)⟩
      have hj : j < 4 := hj
      rw [Nat.zero_add, k0.cell]
      rw [← HKK.out]
      exact List.getElem?_toArray.trans (bytesOf_get _ (by omega))
    · exact ⟨(k2.cell 3), (HR2.out.below hba).more hba.size⟩) (by rw [aLen]; omega) (by rw [aLen]; omega)
  rw [aLen, bytesOf_congr (fun j _ => aCat n1 n2 f g j)] at hcall
  have HCALL := Lib.hid hcall
  have HBA := Lib.hid hba
  clear hcall hba k0 k1 k2 HR1 HR2 HKK HB1
  refine HCALL.out.mono ?_
  rintro e w2 ⟨A', c', rfl, hb2, ho2⟩
  have HB2 := Lib.hid hb2
  have HO2 := Lib.hid ho2
  clear hb2 ho2
  go_wp2_with fail
  go_ret2
  exact ⟨_, _, rfl, HBA.out.trans (HB2.out.mono HBA.out.size), owns_base HO2.out HBA.out.size⟩

set_option maxRecDepth 100000 in
theorem append_limit (w : World) (A1 A2 : Option Addr) (n1 c1 n2 c2 : Nat) (hn1 : n1 ≤ 1099511627776) (hn2 : n2 ≤ 1099511627776) (h : 2097152 < n2 ∨ 16777216 < n1 + 8 + n2) :
    Calls Try.prog 10 #[.slice A1 n1 c1, .slice A2 n2 c2] w fun e w' => e = .returned (.tuple #[.slice none 0 0, .int .i64 3]) ∧ w = w' := by
  by_cases h2 : 2097152 < n2
  · have q0 : (2097152 : Int) < n2 := by omega
    go_enter Try.func10, Try.ntmps10
    go_wp2_with fail
    go_ret2
    exact ⟨rfl, rfl⟩
  · have q0 : ¬ (2097152 : Int) < n2 := by omega
    have q1 : (16777216 : Int) < n1 + 8 + n2 := by omega
    go_enter Try.func10, Try.ntmps10
    go_wp2_with fail
    go_ret2
    exact ⟨rfl, rfl⟩

/-- the bytes that AppendLog lays -/
theorem logLaid (n1 n2 : Nat) (f g : Nat → UInt8) (j : Nat) : glue (n1 + 4 + 4) (glue (n1 + 4) (glue n1 f (lenB n2)) (sha n2 g)) g j = logNext n1 f n2 g j := by
  unfold logNext recF glue
  dsimp only
  by_cases h1 : j < n1
  · rw [if_pos (by omega), if_pos (by omega), if_pos h1, if_pos h1]
  · by_cases h2 : j < n1 + 4
    · rw [if_pos (by omega), if_pos h2, if_neg h1, if_neg h1, if_pos (by omega)]
    · by_cases h3 : j < n1 + 8
      · rw [if_pos (by omega), if_neg h2, if_neg h1, if_neg (by omega), if_pos (by omega), show j - (n1 + 4) = j - n1 - 4 by omega]
      · rw [if_neg (by omega), if_neg h1, if_neg (by omega), if_neg (by omega), show j - (n1 + 4 + 4) = j - n1 - 8 by omega]

set_option maxRecDepth 100000 in
set_option maxHeartbeats 1000000 in
theorem applog_ok (w : World) (A1 A2 : Option Addr) (n1 c1 n2 c2 : Nat) (f g : Nat → UInt8) (hr1 : Reads w w.heap.size 1 A1 n1 (bytesOf n1 f)) (hr2 : Reads w w.heap.size 1 A2 n2 (bytesOf n2 g)) (h2 : n2 ≤ 2097152) (h12 : n1 + 8 + n2 ≤ 16777216) :
    Calls Try.prog 11 #[.slice A1 n1 c1, .slice A2 n2 c2] w fun e w' => ∃ A' c', e = .returned (.tuple #[.slice A' (n1 + (8 + n2)) c', .int .i64 0]) ∧ Below w.heap.size w w' ∧ w'.ownsRow w.heap.size 5 1 (.slice A' (n1 + (8 + n2)) c') (n1 + (8 + n2)) (bytesOf (n1 + (8 + n2)) (logNext n1 f n2 g)) := by
  have q0 : ¬ (2097152 : Int) < n2 := by omega
  have q1 : ¬ (16777216 : Int) < n1 + 8 + n2 := by omega
  obtain ⟨i0, hi0, hz0, hz1, hz2⟩ := info_parts u8_info
  have HR1 := Lib.hid hr1
  have HR2 := Lib.hid hr2
  clear hr1 hr2
  go_enter Try.func11, Try.ntmps11
  go_wp2_with fail
  refine (rsha_any _ _ _ _ g HR2.out (by omega)).mono ?_
  rintro e w1 ⟨rfl, hb1⟩
  obtain ⟨kk, hkk⟩ : ∃ k, sha n2 g = k := ⟨_, rfl⟩
  rw [hkk]
  have HKK := Lib.hid hkk
  have HB1 := Lib.hid hb1
  clear hkk hb1
  have hzw := HB1.out.size
  go_wp2_with (first
    | (refine wpList_store_rowTo rfl 41 (.tmp 7) (.tmp 24) rfl rfl w1.heap.size (bytesOf 32 kk).toArray rfl rfl _ _ (heap_alloc_new _ _) (by rw [keyV_size]; kernel_rfl) (by rw [keyV_size]; kernel_rfl) (keyV_one _) ?_
       generalize hwa : World.setRow _ _ _ = wa
       have hba : Below w.heap.size w wa := by
         rw [← hwa]
         exact below_setRow (HB1.out.alloc HB1.out.size _) HB1.out.size _
       have k0 : Blk wa w1.heap.size 41 (bytesOf 32 kk).toArray := by
         rw [← hwa]
         exact setRow_same _ _ _ _ _ (heap_alloc_new _ _)
       clear hwa
       have hza := hba.size
       have HBA := Lib.hid hba
       have HK0 := Lib.hid k0
       have HOL := Lib.hid (lit_owns wa 5)
       have HRA := Lib.hid (((HR1.out.below hba).more hba.size).alloc (Nat.le_refl _) (.cells #[] 5))
       clear hba k0)
    | (at_builtin
       refine wpList_append_any _ rfl (.tmp 25) (.tmp 26) _ rfl wa.heap.size 5 i0 _ 1 1 Try.underlying22 hi0 hz0 hz1 hz2 rfl (by omega) _ 0 [] rfl
         HOL.out wa.heap.size A1 n1 c1 _ rfl HRA.out (bytesOf_one _ _) (by unfold maxLen; omega) (by omega) (by simp) ?_
       intro v2 w2 ho2 hg2 hat2
       rw [Nat.zero_add, List.nil_append] at ho2
       have hb2 : Below wa.heap.size wa w2 := ((Below.refl _ _).alloc (Nat.le_refl _) _).grown hg2 (by rw [World.size_alloc]; omega) (fun g e => by have := Option.some.inj (show some wa.heap.size = some g from e); omega)
       obtain ⟨A3, c3, rfl⟩ := own_form ho2
       have HO2 := Lib.hid ho2
       have HB2 := Lib.hid hb2
       have hz2' := hb2.size
       clear ho2 hb2 hg2 hat2)
    | (at_builtin
       have hb3 := (Below.refl w2.heap.size w2).alloc (Nat.le_refl _) (.cells #[.int .u8 ((n2 : Int) / 16777216), .int .u8 ((n2 : Int) / 65536), .int .u8 ((n2 : Int) / 256 % 256), .int .u8 ((n2 : Int) % 256)] 5)
       have ho3 := owns_below HO2.out hb3
       have k1 : Blk _ w2.heap.size 5 _ := Blk.new w2 5 #[.int .u8 ((n2 : Int) / 16777216), .int .u8 ((n2 : Int) / 65536), .int .u8 ((n2 : Int) / 256 % 256), .int .u8 ((n2 : Int) % 256)]
       have hrl : Reads _ _ 1 (some ⟨w2.heap.size, 0, none⟩) 4 (bytesOf 4 (lenB n2)) := Reads.flat (o := 0) (fun _ => ⟨rfl, k1.lt⟩) (fun j hj => by
         have : j = 0 ∨ j = 1 ∨ j = 2 ∨ j = 3 := by omega
         rcases this with rfl | rfl | rfl | rfl
         · exact (k1.cell 0).trans (by show some (Value.int .u8 ((n2 : Int) / 16777216)) = some (Value.int .u8 (((lenB n2 0).toNat : Nat) : Int)); rw [lenB_0]; congr 2; omega)
         · exact (k1.cell 1).trans (by show some (Value.int .u8 ((n2 : Int) / 65536)) = some (Value.int .u8 (((lenB n2 1).toNat : Nat) : Int)); rw [lenB_1]; congr 2; omega)
         · exact (k1.cell 2).trans (by show some (Value.int .u8 ((n2 : Int) / 256 % 256)) = some (Value.int .u8 (((lenB n2 2).toNat : Nat) : Int)); rw [lenB_2])
         · exact (k1.cell 3).trans (by show some (Value.int .u8 ((n2 : Int) % 256)) = some (Value.int .u8 (((lenB n2 3).toNat : Nat) : Int)); rw [lenB_3]))
       have HO3 := Lib.hid ho3
       have HRL := Lib.hid hrl
       have HB3 := Lib.hid hb3
       clear hb3 ho3 k1 hrl
       refine wpList_append_any _ rfl (.tmp 27) (.tmp 39) _ rfl wa.heap.size 5 i0 _ 1 1 Try.underlying22 hi0 hz0 hz1 hz2 rfl (by omega) _ n1 _ rfl
         HO3.out _ _ 4 4 _ rfl HRL.out (bytesOf_one _ _) (by unfold maxLen; omega) (by omega) (by rw [World.size_alloc]; omega) ?_
       intro v4 w4 ho4 hg4 hat4
       rw [bytesOf_glue] at ho4
       have hb4 : Below wa.heap.size wa w4 := (HB2.out.trans (HB3.out.mono HB2.out.size)).grown hg4 (by rw [World.size_alloc]; omega) (fun g e => (HO3.out.lt g e).1)
       obtain ⟨A4, c4, rfl⟩ := own_form ho4
       have HO4 := Lib.hid ho4
       have HB4 := Lib.hid hb4
       have hz4 := hb4.size
       have hk4 := HK0.out.below hb4 HK0.out.lt
       have hrk : Reads w4 w4.heap.size 1 (some ⟨w1.heap.size, 0, none⟩) 4 (bytesOf 4 kk) := Reads.flat (o := 0) (fun _ => ⟨rfl, hk4.lt⟩) (fun j hj => by
         rw [Nat.zero_add, hk4.cell]
         exact List.getElem?_toArray.trans (bytesOf_get _ (by omega)))
       have HRK := Lib.hid hrk
       clear hk4 hrk ho4 hg4 hat4 hb4 HO3 HRL HB3 HO2 HB2)
    | (at_builtin
       refine wpList_append_any _ rfl (.tmp 41) (.tmp 42) _ rfl wa.heap.size 5 i0 _ 1 1 Try.underlying22 hi0 hz0 hz1 hz2 rfl (by omega) _ (n1 + 4) _ rfl
         HO4.out _ _ 4 32 _ rfl HRK.out (bytesOf_one _ _) (by unfold maxLen; omega) (by omega) hz4 ?_
       intro v5 w5 ho5 hg5 hat5
       rw [bytesOf_glue] at ho5
       have hb5 : Below wa.heap.size wa w5 := HB4.out.grown hg5 hz4 (fun g e => (HO4.out.lt g e).1)
       obtain ⟨A5, c5, rfl⟩ := own_form ho5
       have HO5 := Lib.hid ho5
       have HB5 := Lib.hid hb5
       have hz5 := hb5.size
       have HR5 := Lib.hid ((HR2.out.below (HBA.out.trans (hb5.mono hza))).more (show w.heap.size ≤ w5.heap.size by omega))
       clear ho5 hb5 hg5 hat5 HO4 HB4 HRK)
    | (at_builtin
       refine wpList_append_any _ rfl (.tmp 43) (.tmp 44) _ rfl wa.heap.size 5 i0 _ 1 1 Try.underlying22 hi0 hz0 hz1 hz2 rfl (by omega) _ (n1 + 4 + 4) _ rfl
         HO5.out _ A2 n2 c2 _ rfl HR5.out (bytesOf_one _ _) (by unfold maxLen; omega) (by omega) hz5 ?_
       intro v6 w6 ho6 hg6 hat6
       rw [bytesOf_glue, ← HKK.out, bytesOf_congr (fun j _ => logLaid n1 n2 f g j), show n1 + 4 + 4 + n2 = n1 + (8 + n2) by omega] at ho6
       have hb6 : Below wa.heap.size wa w6 := HB5.out.grown hg6 hz5 (fun g e => (HO5.out.lt g e).1)
       obtain ⟨A6, c6, rfl⟩ := own_form ho6
       have HO6 := Lib.hid ho6
       have HB6 := Lib.hid hb6
       clear ho6 hb6 hg6 hat6 HO5 HB5 HR5))
  go_ret2
  exact ⟨_, _, rfl, HBA.out.trans (HB6.out.mono hza), owns_base HO6.out hza⟩
end Go.Proofs.Ytjiiaepmdlempaa
