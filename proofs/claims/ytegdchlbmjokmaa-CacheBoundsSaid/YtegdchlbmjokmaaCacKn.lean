/- The cache: keyOf, and the fixed example of chapter 8. -/
import Derived.Test.YtegdchlbmjokmaaCacRn
import Derived.Great.BuildSlice
import Derived.Outline
namespace Go.Proofs.Ytegdchlbmjokmaa
open Go.RowKit
set_option linter.unusedVariables false
set_option linter.unusedSimpArgs false
open Lnk

/-- the key that keyOf makes -/
def kOf (b : UInt8) : Ky := fun j => if j = 0 then b else if j = 1 then 7 else 0
theorem zero_keyC : (Array.replicate 32 (Value.int .u8 0)) = (bytesOf 32 (fun _ => 0)).toArray := by kernel_rfl
theorem wpList_buildTo {P : Program} {ops : Array Oper} {rest : List Oper} {o : Oper} {a : Act} {w : World} {Q : Exit → Act → World → Prop} (hgd : o.guard = none) (t : TypeId) (parts : Array (Nat × Operand)) (ho : o.op = .build t parts) (cells : Array Value)
    (hf : P.built t (parts.map fun (i, x) => (i, a.eval x)).toList = some cells) (h : wpList P ops Q rest (a.put o.dst (.agg cells)) w) : wpList P ops Q (o :: rest) a w :=
  wpList_plain hgd fun _ hK => wp_build t parts ho (by rw [hf]; rfl) (by rw [hf]; exact hK _ _ h)
set_option maxRecDepth 100000 in
theorem keyOf_any (w : World) (b : UInt8) : Calls Try.prog 11 #[.int .i64 (b.toNat : Int)] w fun e w' => e = .returned (keyV (kOf b)) ∧ Below w.heap.size w w' := by
  have hb := b.toNat_lt
  obtain ⟨kk, hkk⟩ : ∃ k, kOf b = k := ⟨_, rfl⟩
  have hcells : (bytesOf 32 (kOf b)).toArray = #[.int .u8 (b.toNat : Int), .int .u8 7, .int .u8 0, .int .u8 0, .int .u8 0, .int .u8 0, .int .u8 0, .int .u8 0, .int .u8 0, .int .u8 0, .int .u8 0, .int .u8 0, .int .u8 0, .int .u8 0, .int .u8 0, .int .u8 0, .int .u8 0, .int .u8 0, .int .u8 0, .int .u8 0, .int .u8 0, .int .u8 0, .int .u8 0, .int .u8 0, .int .u8 0, .int .u8 0, .int .u8 0, .int .u8 0, .int .u8 0, .int .u8 0, .int .u8 0, .int .u8 0] := by kernel_rfl
  rw [hkk] at hcells ⊢
  obtain ⟨n, hn⟩ : ∃ n, b.toNat = n := ⟨_, rfl⟩
  rw [hn] at hb hcells ⊢
  have hbd : Try.prog.built 30 [(0, .int .u8 (n : Int)), (1, .int .u8 7)] = some (bytesOf 32 kk).toArray := by
    rw [hcells]
    kernel_rfl
  have HBD := Lib.hid hbd
  clear hbd
  clear hcells hkk hn
  have g1 : IntKind.u8.wrap (n : Int) = (n : Int) := IntWalk.u8_in _ (by omega)
  go_enter Try.func11, Try.ntmps11
  go_wp2_with (first
    | (refine wpList_buildTo rfl 30 _ rfl (bytesOf 32 kk).toArray (by simp only [List.map_toArray, List.map_cons, List.map_nil]; exact HBD.out) ?_)
    | refine wpList_store_rowTo rfl 30 (.tmp 2) (.tmp 5) rfl rfl w.heap.size (bytesOf 32 kk).toArray rfl rfl _ _ (heap_alloc_new _ _) (by rw [keyV_size]; kernel_rfl) (by rw [keyV_size]; kernel_rfl) (keyV_one _) ?_)
  exact bodyPost_ret (results_cell_row rfl _ _ w.heap.size _ (bytesOf 32 kk).toArray (0, 0) _ rfl (setRow_same _ _ _ _ _ (heap_alloc_new _ _)) Try.underlying30 rfl (by rw [keyV_size]; kernel_rfl)) rfl ⟨rfl, below_setRow ((Below.refl _ _).alloc (Nat.le_refl _) _) (Nat.le_refl _) _⟩

theorem wpList_buildSlice_g {P : Program} {ops : Array Oper} {rest : List Oper} {o : Oper} {a : Act} {w : World} {Q : Exit → Act → World → Prop} (hw : Region.wanted o (yielded ops a.tmps) = true) (t e : TypeId) (len : Nat) (parts : Array (Nat × Operand)) (ho : o.op = .buildSlice t len parts)
    (cells : Array Value) (ie : TypeInfo) (z : Value)
    (hu : P.underlying t = some (.slice e)) (hie : P.info? e = some ie) (hz : ie.zero = some z) (hsmall : ¬ len * ie.size > 2 ^ 24) (hpos : ¬ len * ie.size = 0)
    (hf : Instr.fill (fun i => some (i * ie.size, ie.size)) ((Array.range (len * ie.size)).map (z.cells[· % z.cells.size]!)) (parts.map fun (i, x) => (i, a.eval x)).toList = some cells)
    (h : wpList P ops Q rest (a.put o.dst (.slice (some ⟨w.heap.size, 0, none⟩) len len)) (w.alloc (.cells cells e))) : wpList P ops Q (o :: rest) a w :=
  wpList_step fun K hK => by
    rw [if_pos hw]
    exact wp_buildSlice t e len parts ho cells ie z hu hie hz hsmall hpos hf (hK _ _ h)
theorem key_fill2 (k k' : Ky) (ie : TypeInfo) (hs : ie.size = 32) : Instr.fill (fun i => some (i * ie.size, ie.size)) ((Array.range (2 * ie.size)).map ((Value.agg (Array.replicate 32 (.int .u8 0))).cells[· % (Value.agg (Array.replicate 32 (.int .u8 0))).cells.size]!)) [(0, .agg (bytesOf 32 k).toArray), (1, .agg (bytesOf 32 k').toArray)] = some (bytesOf 32 k ++ bytesOf 32 k').toArray := by
  rw [hs]
  kernel_rfl
theorem two_keys (w4 : World) (k k' : Ky) : KeysAt (w4.alloc (.cells (bytesOf 32 k ++ bytesOf 32 k').toArray 30)) (some ⟨w4.heap.size, 0, none⟩) 2 2 [k, k'] := by
  refine ⟨rfl, Nat.le_refl _, by omega, w4.heap.size, 0, fun _ => rfl, fun j u hu => ?_⟩
  rw [Nat.zero_add, lit_cell]
  refine List.getElem?_toArray.trans ?_
  rw [show keysOf [k, k'] = bytesOf 32 k ++ bytesOf 32 k' by rw [show [k, k'] = [k] ++ [k'] from rfl, keysOf_append, keysOf_one, keysOf_one]] at hu
  exact hu
/-- one call of a cache that is new, in a walk -/
theorem CPost.below {w0 w w' : World} {B C sz : Nat} {kb : Option Nat} {L : List Ky} {v : Value} {e : Ending} (hb : Below B w0 w) (hB : B ≤ w.heap.size) (h : CPost w B C sz kb L v e w') : Below B w0 w' := Only.below_trans hb h.2.1 hB CFoot.ge
set_option maxRecDepth 100000 in
set_option maxHeartbeats 2000000 in
theorem known_any (w : World) : Calls Try.prog 8 #[] w fun e w' => e = .returned (.bool true) ∧ Below w.heap.size w w' := by
  obtain ⟨i0, hi0, hz0, hz1, hz2⟩ := info_parts key_info
  obtain ⟨k1, hk1⟩ : ∃ k, kOf 1 = k := ⟨_, rfl⟩
  obtain ⟨k2, hk2⟩ : ∃ k, kOf 2 = k := ⟨_, rfl⟩
  obtain ⟨k3, hk3⟩ : ∃ k, kOf 3 = k := ⟨_, rfl⟩
  have H1 : Hid (∀ W, Calls Try.prog 11 #[.int .i64 1] W fun e w' => e = .returned (keyV k1) ∧ Below W.heap.size W w') := fun W => by rw [← hk1]; exact keyOf_any W 1
  have H2 : Hid (∀ W, Calls Try.prog 11 #[.int .i64 2] W fun e w' => e = .returned (keyV k2) ∧ Below W.heap.size W w') := fun W => by rw [← hk2]; exact keyOf_any W 2
  have H3 : Hid (∀ W, Calls Try.prog 11 #[.int .i64 3] W fun e w' => e = .returned (keyV k3) ∧ Below W.heap.size W w') := fun W => by rw [← hk3]; exact keyOf_any W 3
  have e1 : Hid (pushK [] 2 k1 = [k1] ∧ hasK [] k1 = false) := by rw [← hk1]; exact ⟨by kernel_rfl, by kernel_rfl⟩
  have e2 : Hid (pushK [k1] 2 k2 = [k1, k2] ∧ hasK [k1] k2 = false) := by rw [← hk1, ← hk2]; exact ⟨by kernel_rfl, by kernel_rfl⟩
  have e3 : Hid (pushK [k1, k2] 2 k1 = [k2, k1] ∧ hasK [k1, k2] k1 = true) := by rw [← hk1, ← hk2]; exact ⟨by kernel_rfl, by kernel_rfl⟩
  have e4 : Hid (pushK [k2, k1] 2 k3 = [k1, k3] ∧ hasK [k2, k1] k3 = false) := by rw [← hk1, ← hk2, ← hk3]; exact ⟨by kernel_rfl, by kernel_rfl⟩
  have e5 : Hid (hasK [k1, k3] k3 = true ∧ hasK [k1, k3] k2 = false) := by rw [← hk1, ← hk2, ← hk3]; exact ⟨by kernel_rfl, by kernel_rfl⟩
  have HI0 := Lib.hid hi0
  have HZ0 := Lib.hid hz0
  clear hk1 hk2 hk3 hi0 hz0
  go_enter Try.func8, Try.ntmps8
  go_wp2_with fail
  refine (cnewL_any w w.heap.size (Nat.le_refl _) 2 ⟨by omega, by omega⟩).mono ?_
  rintro e w1 ⟨C, rfl, hb1, hc1, hC⟩
  rw [show clampC 2 = 2 from rfl] at hc1
  have HB1 := Lib.hid hb1
  have HC1 := Lib.hid hc1
  clear hb1 hc1
  go_wp2_with fail
  refine (H1.out _).mono ?_
  rintro e w2 ⟨rfl, hb2⟩
  have HB2 := Lib.hid (HB1.out.trans (hb2.mono HB1.out.size))
  have HC2 := Lib.hid (HC1.out.below hb2)
  clear hb2
  go_wp2_with fail
  have hp := cpush_any w2 w.heap.size C 2 [] _ k1 HC2.out HB2.out.size
  rw [e1.out.1, e1.out.2] at hp
  refine hp.mono ?_
  clear hp
  rintro e w3 hp
  have he := hp.1
  subst he
  have HB3 := Lib.hid (hp.below HB2.out HB2.out.size)
  obtain ⟨_, _, kb3, _, hc3⟩ := hp
  have HC3 := Lib.hid hc3
  clear hc3
  go_wp2_with fail
  refine (H2.out _).mono ?_
  rintro e w4 ⟨rfl, hb4⟩
  have HB4 := Lib.hid (HB3.out.trans (hb4.mono HB3.out.size))
  have HC4 := Lib.hid (HC3.out.below hb4)
  clear hb4
  go_wp2_with fail
  have hp := cpush_any w4 w.heap.size C 2 [k1] _ k2 HC4.out HB4.out.size
  rw [e2.out.1, e2.out.2] at hp
  refine hp.mono ?_
  clear hp
  rintro e w5 hp
  have he := hp.1
  subst he
  have HB5 := Lib.hid (hp.below HB4.out HB4.out.size)
  obtain ⟨_, _, kb5, _, hc5⟩ := hp
  have HC5 := Lib.hid hc5
  clear hc5
  go_wp2_with fail
  refine (H1.out _).mono ?_
  rintro e w6 ⟨rfl, hb6⟩
  have HB6 := Lib.hid (HB5.out.trans (hb6.mono HB5.out.size))
  have HC6 := Lib.hid (HC5.out.below hb6)
  clear hb6
  go_wp2_with fail
  have hp := cpush_any w6 w.heap.size C 2 [k1, k2] _ k1 HC6.out HB6.out.size
  rw [e3.out.1, e3.out.2] at hp
  refine hp.mono ?_
  clear hp
  rintro e w7 hp
  have he := hp.1
  subst he
  have HB7 := Lib.hid (hp.below HB6.out HB6.out.size)
  obtain ⟨_, _, kb7, _, hc7⟩ := hp
  have HC7 := Lib.hid hc7
  clear hc7
  go_wp2_with fail
  refine (H3.out _).mono ?_
  rintro e w8 ⟨rfl, hb8⟩
  have HB8 := Lib.hid (HB7.out.trans (hb8.mono HB7.out.size))
  have HC8 := Lib.hid (HC7.out.below hb8)
  clear hb8
  go_wp2_with fail
  have hp := cpush_any w8 w.heap.size C 2 [k2, k1] _ k3 HC8.out HB8.out.size
  rw [e4.out.1, e4.out.2] at hp
  refine hp.mono ?_
  clear hp
  rintro e w9 hp
  have he := hp.1
  subst he
  have HB9 := Lib.hid (hp.below HB8.out HB8.out.size)
  obtain ⟨_, _, kb9, _, hc9⟩ := hp
  have HC9 := Lib.hid hc9
  clear hc9
  go_wp2_with fail
  refine (ckeys_any w9 w.heap.size C 2 _ _ HC9.out HB9.out.size).mono ?_
  rintro e w10 ⟨v10, rfl, A10, c10, rfl, hb10, ho10⟩
  have HB10 := Lib.hid (HB9.out.trans (hb10.mono HB9.out.size))
  have HC10 := Lib.hid (HC9.out.below hb10)
  have hkl := KeysAt.of_own ho10
  have HL10 := Lib.hid hkl
  clear hb10 ho10 hkl
  go_wp2_with fail
  refine (H1.out _).mono ?_
  rintro e w11 ⟨rfl, hb11⟩
  have HB11x := Lib.hid hb11
  have HB11 := Lib.hid (HB10.out.trans (hb11.mono HB10.out.size))
  have HC11 := Lib.hid (HC10.out.below hb11)
  clear hb11
  go_wp2_with fail
  refine (H3.out _).mono ?_
  rintro e w12 ⟨rfl, hb12⟩
  have HB12x := Lib.hid hb12
  have HB12 := Lib.hid (HB11.out.trans (hb12.mono HB11.out.size))
  have HC12 := Lib.hid (HC11.out.below hb12)
  clear hb12
  have hlk : KeysAt w12 A10 2 c10 [k1, k3] := (HL10.out.below HB11x.out).below HB12x.out
  have HLK := Lib.hid hlk
  clear hlk
  go_wp2_with (refine wpList_buildSlice_g (by kernel_rfl) 28 30 2 _ rfl (bytesOf 32 k1 ++ bytesOf 32 k3).toArray i0 _ Try.underlying28 HI0.out HZ0.out (by rw [hz1]; omega) (by rw [hz1]; omega) (by simp only [List.map_toArray, List.map_cons, List.map_nil]; exact key_fill2 k1 k3 i0 hz1) ?_)
  refine (sameKeys_any _ A10 _ 2 c10 2 [k1, k3] (HLK.out.below ((Below.refl _ _).alloc (Nat.le_refl _) _)) (two_keys _ _ _) (by omega)).mono ?_
  rintro e w13 ⟨rfl, hb13⟩
  have hb13' : Below w12.heap.size w12 w13 := ((Below.refl _ _).alloc (Nat.le_refl _) _).trans (hb13.mono (by simp))
  have HB13 := Lib.hid (HB12.out.trans (hb13'.mono HB12.out.size))
  have HC13 := Lib.hid (HC12.out.below hb13')
  clear hb13 hb13'
  go_wp2_with fail
  refine (clenL_any w13 w.heap.size C 2 _ _ HC13.out).mono ?_
  rintro e w14 ⟨rfl, rfl⟩
  go_wp2_with fail
  refine (H3.out _).mono ?_
  rintro e w15 ⟨rfl, hb15⟩
  have HB15 := Lib.hid (HB13.out.trans (hb15.mono HB13.out.size))
  have HC15 := Lib.hid (HC13.out.below hb15)
  clear hb15
  go_wp2_with fail
  have hp := chasL_any w15 w.heap.size C 2 _ _ k3 HC15.out
  rw [e5.out.1] at hp
  refine hp.mono ?_
  clear hp
  rintro e w16 ⟨rfl, hb16⟩
  have HB16 := Lib.hid (HB15.out.trans (hb16.mono HB15.out.size))
  have HC16 := Lib.hid (HC15.out.below hb16)
  clear hb16
  go_wp2_with fail
  refine (H2.out _).mono ?_
  rintro e w17 ⟨rfl, hb17⟩
  have HB17 := Lib.hid (HB16.out.trans (hb17.mono HB16.out.size))
  have HC17 := Lib.hid (HC16.out.below hb17)
  clear hb17
  go_wp2_with fail
  have hp := chasL_any w17 w.heap.size C 2 _ _ k2 HC17.out
  rw [e5.out.2] at hp
  refine hp.mono ?_
  clear hp
  rintro e w18 ⟨rfl, hb18⟩
  have HB18 := Lib.hid (HB17.out.trans (hb18.mono HB17.out.size))
  have HC18 := Lib.hid (HC17.out.below hb18)
  clear hb18
  go_wp2_with fail
  go_ret
  exact ⟨rfl, HB18.out⟩
end Go.Proofs.Ytegdchlbmjokmaa
