/- The example of chapter 6. -/
import Derived.Test.YtlijjacnfdnhkaaMerW7
import Derived.Test.YtlijjacnfdnhkaaMerW6
import Derived.Lib.SlBytesConst
namespace Go.Proofs.Ytlijjacnfdnhkaa
open Go.RowKit
set_option linter.unusedVariables false
open ShaW Sha

theorem KeysAt.of_own {w : World} {base m c : Nat} {A : Option Addr} {ps : List Ky} (h : w.ownsRow base 24 32 (.slice A m c) m (keysOf ps)) : KeysAt w A m c ps := by
  have hlen : ps.length = m := by
    have := h.1
    rw [keysOf_len] at this
    omega
  rcases h.2 with ⟨hv, rfl⟩ | ⟨g, cap, cur, hv, hb, hg, hnc, hcm, hsz, htk⟩
  · injection hv with h1 h2 h3
    subst h1 h3
    have : ps = [] := List.length_eq_zero_iff.1 hlen
    subst this
    exact ⟨rfl, Nat.le_refl _, Nat.zero_le _, 0, 0, fun h => absurd h (Nat.lt_irrefl _), fun j u hu => by simp [keysOf] at hu⟩
  · injection hv with h1 h2 h3
    subst h1 h3
    refine ⟨hlen, hnc, hcm, g, 0, fun _ => rfl, fun j u hu => ?_⟩
    have := h.cells (g := g) rfl j u hu
    rwa [add_flat] at this
/-- a row, frozen or not -/
def Blf (w : World) (g : Nat) (t : TypeId) (cs : Array Value) : Prop := ∃ fr, w.heap[g]? = some (.cells cs t fr)
theorem Blf.lt {w : World} {g : Nat} {t : TypeId} {cs : Array Value} (h : Blf w g t cs) : g < w.heap.size := by
  obtain ⟨fr, h⟩ := h
  rcases Nat.lt_or_ge g w.heap.size with h' | h'
  · exact h'
  · rw [Array.getElem?_eq_none h'] at h; cases h
theorem Blf.cell {w : World} {g : Nat} {t : TypeId} {cs : Array Value} (h : Blf w g t cs) (i : Nat) : w.cell? ⟨g, i, none⟩ = cs[i]? := by
  obtain ⟨fr, h⟩ := h
  exact cell_of_row w g i cs t fr h
theorem Blf.below {w w' : World} {B g : Nat} {t : TypeId} {cs : Array Value} (h : Blf w g t cs) (hb : Below B w w') (hg : g < B) : Blf w' g t cs := by
  obtain ⟨fr, h⟩ := h
  exact ⟨fr, (hb.block g hg).trans h⟩
theorem Blf.alloc {w : World} {g : Nat} {t : TypeId} {cs : Array Value} (h : Blf w g t cs) (o : Obj) : Blf (w.alloc o) g t cs := by
  have hl := h.lt
  obtain ⟨fr, h⟩ := h
  exact ⟨fr, (Below.heap_alloc w o g hl).trans h⟩
theorem Blf.new_ (w : World) (g : Nat) (hg : g = w.heap.size) (t : TypeId) (cs : Array Value) (fr : Nat × Nat) : Blf (w.alloc (.cells cs t fr)) g t cs := ⟨fr, heap_alloc_at _ _ _ hg⟩
/-- the leaves of the example -/
def abcF (r : Nat) : Nat → UInt8 := fun _ => UInt8.ofNat (97 + r)
theorem half3 : halfN 3 = 2 := by decide
theorem half2 : halfN 2 = 1 := by decide
theorem root3 : rootK 3 (fun _ => 1) abcF = innerK (innerK (leafK 1 (abcF 0)) (leafK 1 (abcF 1))) (leafK 1 (abcF 2)) := by
  rw [rootK_more (by omega), half3, rootK_more (n := 2) (by omega), half2, rootK_one, rootK_one, rootK_one]
theorem path3 : (pathK 3 2 (fun _ => 1) abcF).length = 1 := by
  rw [pathK_right (by omega) (by rw [half3]; omega), half3, pathK_one (by omega)]
  rfl
theorem verify_path (n i : Nat) (L : Nat → Nat) (F : Nat → Nat → UInt8) (hi : i < n) : verifyB (rootK n L F) (leafK (L i) (F i)) i n (pathK n i L F) = true := by
  unfold verifyB
  rw [climb_path n i L F hi, keyEq_refl]
  rfl

set_option maxRecDepth 100000 in
set_option maxHeartbeats 1000000 in
theorem known_any (w : World) : Calls Try.prog 8 #[] w fun e w' => e = .returned (.bool true) ∧ Below w.heap.size w w' := by
  have kc := fun (w : World) (C : Array Value) (n c : Nat) => Lib.run_convert_bytes_const (P := Try.prog) w 25 5 C n c Try.underlying25 Try.underlying5
  have kc2 : ∀ (a : Obj) (C : Array Value) (n c : Nat), (convert 25 25 (.slice (some ⟨w.heap.size + 1, 0, none⟩) n c)).run Try.prog ((w.alloc a).alloc (.cells C 5)) = .ok (.slice (some ⟨w.heap.size + 1, 0, none⟩) n c) ((w.alloc a).alloc (.cells C 5 (C.size, C.size + 1))) := fun a C n c => by
    have h := kc (w.alloc a) C n c
    rw [show (w.alloc a).heap.size = w.heap.size + 1 from World.size_alloc _ _] at h
    exact h
  have kc3 : ∀ (a a' : Obj) (C : Array Value) (n c : Nat), (convert 25 25 (.slice (some ⟨w.heap.size + 1 + 1, 0, none⟩) n c)).run Try.prog (((w.alloc a).alloc a').alloc (.cells C 5)) = .ok (.slice (some ⟨w.heap.size + 1 + 1, 0, none⟩) n c) (((w.alloc a).alloc a').alloc (.cells C 5 (C.size, C.size + 1))) := fun a a' C n c => by
    have h := kc ((w.alloc a).alloc a') C n c
    rw [show ((w.alloc a).alloc a').heap.size = w.heap.size + 1 + 1 by simp] at h
    exact h
  go_enter Try.func8, Try.ntmps8
  go_wp2_with fail
  generalize hwl : World.alloc (World.alloc (World.alloc (World.alloc w _) _) _) _ = wl
  have hbl : Below w.heap.size w wl := by rw [← hwl]; exact ((((Below.refl _ _).alloc (Nat.le_refl _) _).alloc (by simp) _).alloc (by simp; omega) _).alloc (by simp; omega) _
  have ka : Blf wl w.heap.size 5 #[.int .u8 97] := by rw [← hwl]; exact (((Blf.new_ w _ rfl _ _ _).alloc _).alloc _).alloc _
  have kb : Blf wl (w.heap.size + 1) 5 #[.int .u8 98] := by rw [← hwl]; exact ((Blf.new_ _ _ (by simp) _ _ _).alloc _).alloc _
  have kc' : Blf wl (w.heap.size + 1 + 1) 5 #[.int .u8 99] := by rw [← hwl]; exact (Blf.new_ _ _ (by simp) _ _ _).alloc _
  have kl : Blf wl (w.heap.size + 1 + 1 + 1) 25 #[.slice (some ⟨w.heap.size, 0, none⟩) 1 1, .slice (some ⟨w.heap.size + 1, 0, none⟩) 1 1, .slice (some ⟨w.heap.size + 1 + 1, 0, none⟩) 1 1] := by rw [← hwl]; exact Blf.new_ _ _ (by simp) _ _ _
  clear hwl kc kc2 kc3
  have hread : ∀ W, Below wl.heap.size wl W → Reads W W.heap.size 1 (some ⟨w.heap.size, 0, none⟩) 1 (bytesOf 1 (abcF 0)) ∧ Reads W W.heap.size 1 (some ⟨w.heap.size + 1, 0, none⟩) 1 (bytesOf 1 (abcF 1)) ∧ Reads W W.heap.size 1 (some ⟨w.heap.size + 1 + 1, 0, none⟩) 1 (bytesOf 1 (abcF 2)) := by
    intro W hW
    have ka := ka.below hW ka.lt
    have kb := kb.below hW kb.lt
    have kc' := kc'.below hW kc'.lt
    refine ⟨Reads.flat (o := 0) (fun _ => ⟨rfl, ka.lt⟩) (fun j hj => ?_), Reads.flat (o := 0) (fun _ => ⟨rfl, kb.lt⟩) (fun j hj => ?_), Reads.flat (o := 0) (fun _ => ⟨rfl, kc'.lt⟩) (fun j hj => ?_)⟩
    · obtain rfl : j = 0 := by omega
      exact ka.cell 0
    · obtain rfl : j = 0 := by omega
      exact kb.cell 0
    · obtain rfl : j = 0 := by omega
      exact kc'.cell 0
  have hrows : RowsAt wl (some ⟨w.heap.size + 1 + 1 + 1, 0, none⟩) 3 3 (fun _ => 1) abcF := by
    obtain ⟨ra, rb, rc⟩ := hread wl (Below.refl _ _)
    refine ⟨Nat.le_refl _, by omega, w.heap.size + 1 + 1 + 1, 0, fun _ => rfl, fun r hr => ?_⟩
    have : r = 0 ∨ r = 1 ∨ r = 2 := by omega
    rcases this with rfl | rfl | rfl
    · exact ⟨_, _, kl.cell 0, ra, by show (1 : Nat) ≤ 1073741823; omega⟩
    · exact ⟨_, _, kl.cell 1, rb, by show (1 : Nat) ≤ 1073741823; omega⟩
    · exact ⟨_, _, kl.cell 2, rc, by show (1 : Nat) ≤ 1073741823; omega⟩
  have HREAD := Lib.hid hread
  have HROWS := Lib.hid hrows
  have HBL := Lib.hid hbl
  clear ka kb kc' kl hread hrows hbl
  have hproof := mproof_any 3 (by omega) wl _ 3 _ _ 2 HROWS.out (by omega)
  rw [show ((2 : Nat) : Int) = 2 from rfl] at hproof
  refine hproof.mono ?_
  obtain ⟨pp, hpp⟩ : ∃ pp, pathK 3 2 (fun _ => 1) abcF = pp := ⟨_, rfl⟩
  have hpl : pp.length = 1 := by rw [← hpp]; exact path3
  rw [hpp]
  rintro e w1 ⟨Ap, cp, rfl, hb1, ho1⟩
  rw [hpl] at ho1 ⊢
  have HP1 := Lib.hid (KeysAt.of_own ho1)
  have HB1 := Lib.hid hb1
  clear hproof hb1 ho1
  obtain ⟨kr, hkr⟩ : ∃ kr, rootK 3 (fun _ => 1) abcF = kr := ⟨_, rfl⟩
  have hroot : ∀ W, Below wl.heap.size wl W → Calls Try.prog 10 #[.slice (some ⟨w.heap.size + 1 + 1 + 1, 0, none⟩) 3 3] W fun e w' => e = .returned (keyV kr) ∧ Below W.heap.size W w' := fun W hW => by
    have h := mroot_any 3 (by omega) W _ 3 _ _ (HROWS.out.below hW)
    rw [hkr] at h
    exact h
  have HROOT := Lib.hid hroot
  clear hroot
  go_wp2_with fail
  refine (HROOT.out _ HB1.out).mono ?_
  rintro e w2 ⟨rfl, hb2⟩
  have HP2 := Lib.hid (HP1.out.below hb2)
  have HB2 := Lib.hid (HB1.out.trans (hb2.mono HB1.out.size))
  clear hb2 HP1 HB1
  go_wp2_with fail
  refine (mleaf_any w2 _ 1 _ (abcF 0) (HREAD.out _ HB2.out).1 (by omega)).mono ?_
  rintro e w3 ⟨rfl, hb3⟩
  have HP3 := Lib.hid (HP2.out.below hb3)
  have HB3 := Lib.hid (HB2.out.trans (hb3.mono HB2.out.size))
  clear hb3 HP2 HB2
  go_wp2_with fail
  refine (mleaf_any w3 _ 1 _ (abcF 1) (HREAD.out _ HB3.out).2.1 (by omega)).mono ?_
  rintro e w4 ⟨rfl, hb4⟩
  have HP4 := Lib.hid (HP3.out.below hb4)
  have HB4 := Lib.hid (HB3.out.trans (hb4.mono HB3.out.size))
  clear hb4 HP3 HB3
  go_wp2_with fail
  refine (minner_any w4 _ _).mono ?_
  rintro e w5 ⟨rfl, hb5⟩
  have HP5 := Lib.hid (HP4.out.below hb5)
  have HB5 := Lib.hid (HB4.out.trans (hb5.mono HB4.out.size))
  clear hb5 HP4 HB4
  go_wp2_with fail
  refine (mleaf_any w5 _ 1 _ (abcF 2) (HREAD.out _ HB5.out).2.2 (by omega)).mono ?_
  rintro e w6 ⟨rfl, hb6⟩
  have HP6 := Lib.hid (HP5.out.below hb6)
  have HB6 := Lib.hid (HB5.out.trans (hb6.mono HB5.out.size))
  clear hb6 HP5 HB5
  go_wp2_with fail
  refine (minner_any w6 _ _).mono ?_
  rw [← root3, hkr]
  rintro e w7 ⟨rfl, hb7⟩
  have HP7 := Lib.hid (HP6.out.below hb7)
  have HB7 := Lib.hid (HB6.out.trans (hb7.mono HB6.out.size))
  clear hb7 HP6 HB6
  have heqR : ∀ W, (binOp .eql 24 (keyV kr) (keyV kr)).run Try.prog W = .ok (.bool true) W := fun W => by rw [run_keyEq, keyEq_refl]
  have hver : verifyB kr (leafK 1 (abcF 2)) 2 3 pp = true := by rw [← hkr, ← hpp]; exact verify_path 3 2 (fun _ => 1) abcF (by omega)
  have HVER := Lib.hid hver
  clear hver
  go_wp2_with fail
  refine (HROOT.out _ HB7.out).mono ?_
  rintro e w8 ⟨rfl, hb8⟩
  have HP8 := Lib.hid (HP7.out.below hb8)
  have HB8 := Lib.hid (HB7.out.trans (hb8.mono HB7.out.size))
  clear hb8 HP7 HB7
  go_wp2_with fail
  have hv := mverify_any w8 kr _ 1 1 (abcF 2) 2 3 Ap 1 cp pp (HREAD.out _ HB8.out).2.2 (by omega) (by omega) (by omega) HP8.out (by omega)
  rw [show ((2 : Nat) : Int) = 2 from rfl, show ((3 : Nat) : Int) = 3 from rfl, HVER.out] at hv
  refine hv.mono ?_
  clear hv
  rintro e w9 ⟨rfl, hb9⟩
  have HP9 := Lib.hid (HP8.out.below hb9)
  have HB9 := Lib.hid (HB8.out.trans (hb9.mono HB8.out.size))
  clear hb9 HP8 HB8
  go_wp2_with fail
  refine (HROOT.out _ HB9.out).mono ?_
  rintro e w10 ⟨rfl, hb10⟩
  have HB10 := Lib.hid (HB9.out.trans (hb10.mono HB9.out.size))
  clear hb10 HP9 HB9
  go_wp2_with fail
  refine (mverify_out w10 kr _ 1 1 3 3 Ap 1 cp (.inr (by omega))).mono ?_
  rintro e w11 ⟨rfl, hb11⟩
  have HB11 := Lib.hid (HB10.out.trans (hb11.mono HB10.out.size))
  clear hb11 HB10
  go_wp2_with fail
  refine (mroot_any 0 (by omega) w11 none 0 (fun _ => 0) (fun _ _ => 0) ⟨Nat.le_refl _, by omega, 0, 0, fun h => absurd h (by omega), fun r hr => absurd hr (by omega)⟩).mono ?_
  rw [rootK_zero]
  rintro e w12 ⟨rfl, hb12⟩
  have HB12 := Lib.hid (HB11.out.trans (hb12.mono HB11.out.size))
  clear hb12 HB11
  go_wp2_with fail
  refine (rsha_any w12 none 0 0 (fun _ => 0) Reads.none_ (by omega)).mono ?_
  rw [show sha 0 (fun _ => 0) = zeroK from rfl]
  rintro e w13 ⟨rfl, hb13⟩
  have HB13 := Lib.hid (HB12.out.trans (hb13.mono HB12.out.size))
  clear hb13 HB12
  obtain ⟨kz, hkz⟩ : ∃ kz, zeroK = kz := ⟨_, rfl⟩
  rw [hkz]
  clear hkz
  have heqZ : ∀ W, (binOp .eql 24 (keyV kz) (keyV kz)).run Try.prog W = .ok (.bool true) W := fun W => by rw [run_keyEq, keyEq_refl]
  go_wp2_with fail
  go_ret
  exact ⟨rfl, HBL.out.trans (HB13.out.mono HBL.out.size)⟩
end Go.Proofs.Ytlijjacnfdnhkaa
