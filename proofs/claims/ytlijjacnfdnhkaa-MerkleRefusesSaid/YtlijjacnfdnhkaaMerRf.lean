/- MerkleRefuses: the walk. -/
import Derived.Test.YtlijjacnfdnhkaaMerW8
import Derived.Deep.RegionHeld3
import Derived.Deep.DeepCutAuto
namespace Go.Proofs.Ytlijjacnfdnhkaa
open Go.RowKit
set_option linter.unusedVariables false
set_option linter.unusedSimpArgs false
open ShaW Sha

theorem key_size (k : Ky) : (Try.prog.info? 24).map (·.size) = some (bytesOf 32 k).length := by rw [bytesOf_length]; kernel_rfl
theorem below_al {a W : World} (h : Below a.heap.size a W) (o : Obj) : Below a.heap.size a (W.alloc o) := h.alloc h.size o
theorem below_step {a W w' : World} (h : Below a.heap.size a W) (h' : Below W.heap.size W w') : Below a.heap.size a w' := h.trans (h'.mono h.size)
theorem lit_own0 (w : World) (e : TypeId) (size : Nat) : (w.alloc (.cells #[] e)).ownsRow w.heap.size e size (.slice (some ⟨w.heap.size, 0, none⟩) 0 0) 0 [] :=
  World.ownsRow_lit (base := w.heap.size) (e := e) (size := size) w #[] 0 (Nat.le_refl _) (by unfold maxLen; omega) (by simp)
theorem grown_undrew {w w' : World} {row : Option Nat} (h : w.drew.grownBy w' row) : w.grownBy w' row := ⟨h.os, h.tape, h.output, h.size, h.block⟩
theorem Reads.grown_ne {w w' : World} {B size n : Nat} {ad : Addr} {xs : List Value} {row : Option Nat} (h : Reads w B size (some ad) n xs) (hg : w.grownBy w' row) (hB : B ≤ w.heap.size) (hne : row ≠ some ad.block) : Reads w' B size (some ad) n xs := by
  refine ⟨h.1, fun hn => ?_⟩
  obtain ⟨ad', e, hb, hc⟩ := h.2 hn
  injection e with e
  subst e
  exact ⟨ad, rfl, hb, fun j u hu => (World.cell?_of_block (hg.block _ (by rw [block_of_add]; omega) (by rw [block_of_add]; exact fun e => hne e.symm))).trans (hc j u hu)⟩
theorem KeysAt.take_ {w : World} {A : Option Addr} {m c k : Nat} {ps : List Ky} (h : KeysAt w A m c ps) (hk : k ≤ m) : KeysAt w A k c (ps.take k) := by
  obtain ⟨h1, h2, h3, g, o, hA, hc⟩ := h
  refine ⟨by rw [List.length_take]; omega, by omega, h3, g, o, fun _ => hA (by omega), fun j u hu => hc j u ?_⟩
  rw [← List.take_append_drop k ps, keysOf_append]
  exact (List.getElem?_append_left (List.getElem?_eq_some_iff.1 hu).1).trans hu
theorem keysAt_set {w : World} {g m c q : Nat} {ps : List Ky} {k : Ky} (h : KeysAt w (some ⟨g, 0, none⟩) m c ps) (hq : q < m) (ht : w.there g (q * 32) 32) :
    KeysAt (w.setCells g (q * 32) (bytesOf 32 k)) (some ⟨g, 0, none⟩) m c (ps.take q ++ k :: ps.drop (q + 1)) := by
  obtain ⟨h1, h2, h3, g', o', hA, hc⟩ := h
  have eA := hA (by omega)
  injection eA with eA
  injection eA with e1 e2
  subst e1 e2
  refine ⟨by simp; omega, h2, h3, g, 0, fun _ => rfl, fun j u hu => ?_⟩
  have hsame := World.rangeAt_setCells_same w g (q * 32) (bytesOf 32 k) (by rw [bytesOf_length]; exact ht)
  have e0 : keysOf ps = keysOf (ps.take q) ++ (keysOf [ps[q]'(by omega)] ++ keysOf (ps.drop (q + 1))) := by
    rw [← keysOf_append, ← keysOf_append]
    congr 1
    simp
  have l1 : (keysOf (ps.take q)).length = q * 32 := by rw [keysOf_len, List.length_take, Nat.min_eq_left (by omega)]
  have l2 : (keysOf [ps[q]'(by omega)]).length = 32 := by rw [keysOf_len]; rfl
  have r1 : w.rangeAt g 0 (keysOf (ps.take q)) := fun j u hu => hc j u (by rw [e0]; exact (List.getElem?_append_left (List.getElem?_eq_some_iff.1 hu).1).trans hu)
  have r2 : w.rangeAt g (q * 32 + 32) (keysOf (ps.drop (q + 1))) := fun j u hu => by
    have := hc (q * 32 + 32 + j) u (by
      rw [e0, List.getElem?_append_right (by omega), List.getElem?_append_right (by omega), l1, l2, show q * 32 + 32 + j - q * 32 - 32 = j by omega]; exact hu)
    rw [Nat.zero_add] at this; exact this
  have a1 := World.rangeAt_setCells_apart r1 g (q * 32) (bytesOf 32 k) (.inr (.inl (by rw [l1]; omega)))
  have a2 := World.rangeAt_setCells_apart r2 g (q * 32) (bytesOf 32 k) (.inr (.inr (by rw [bytesOf_length]; omega)))
  have e3 : keysOf (ps.take q ++ k :: ps.drop (q + 1)) = keysOf (ps.take q) ++ (bytesOf 32 k ++ keysOf (ps.drop (q + 1))) := by
    rw [keysOf_append, show k :: ps.drop (q + 1) = [k] ++ ps.drop (q + 1) from rfl, keysOf_append, keysOf_one]
  rw [e3] at hu
  rcases Nat.lt_or_ge j (q * 32) with hj | hj
  · rw [List.getElem?_append_left (by omega)] at hu
    exact a1 j u hu
  · rw [List.getElem?_append_right (by omega), l1] at hu
    rcases Nat.lt_or_ge (j - q * 32) 32 with hj2 | hj2
    · rw [List.getElem?_append_left (by rw [bytesOf_length]; exact hj2)] at hu
      have := hsame _ u hu
      rwa [show q * 32 + (j - q * 32) = 0 + j by omega] at this
    · rw [List.getElem?_append_right (by rw [bytesOf_length]; exact hj2), bytesOf_length] at hu
      have := a2 _ u hu
      rwa [show q * 32 + 32 + (j - q * 32 - 32) = 0 + j by omega] at this
theorem own_there {w : World} {base g m c k : Nat} {e : TypeId} {xs : List Value} (h : w.ownsRow base e 32 (.slice (some ⟨g, 0, none⟩) m c) m xs) (hk : (k + 1) ≤ m) : w.there g (k * 32) 32 := by
  rcases h.2 with ⟨hv, _⟩ | ⟨g', cap, cur, hv, _, hg, hnc, _, hsz, _⟩
  · cases hv
  · injection hv with h1 h2 h3
    injection h1 with h1
    injection h1 with h1
    subst h1
    intro j hj
    refine ⟨?_, ?_⟩
    · rw [cell_of_row w g (k * 32 + j) cur e (0, 0) hg]
      have : k * 32 + j < cur.size := by
        have : (k + 1) * 32 ≤ cap * 32 := Nat.mul_le_mul_right _ (by omega)
        omega
      simp [this]
    · exact Lib.frozen_of_heap hg _
theorem own_form_pos {w : World} {base n : Nat} {e : TypeId} {v : Value} {xs : List Value} {size : Nat} (h : w.ownsRow base e size v n xs) (hn : 0 < n) : ∃ g c, v = .slice (some ⟨g, 0, none⟩) n c ∧ base ≤ g := by
  rcases h.2 with ⟨rfl, rfl⟩ | ⟨g', cap, cur, rfl, h2, _⟩
  · omega
  · exact ⟨_, _, rfl, h2⟩
theorem below_setCells {B : Nat} {a w : World} (h : Below B a w) {g : Nat} (hg : B ≤ g) : ∀ (vs : List Value) (o : Nat), Below B a (w.setCells g o vs)
  | vs, o => by
    induction vs generalizing w o with
    | nil => exact h
    | cons v r ih => exact ih (h.setCell (p := ⟨g, o, none⟩) hg v) (o + 1)
theorem store_key_step (x y : Operand) (ty : TypeId) (pos : String) (after : Array Edge) (guard : Option (Nat × Bool)) (a : Act) (W : World) (K : Act → World → Prop) (Q : Exit → Act → World → Prop) (h : KeyAt W (a.eval x)) (hv : IsKey (a.eval y)) (hk : K a (storeRow W (a.eval x) (a.eval y))) :
    Oper.wp Try.prog { dst := none, op := .store 24 x y, type := ty, pos := pos, after := after, guard := guard } a W K Q := by
  rw [wp_store_key _ _ _ _ _ _ _ _ _ _ h hv]; exact hk
theorem KeyAt.below {w w' : World} {v : Value} (h : KeyAt w v) (hb : Below w.heap.size w w') : KeyAt w' v := by
  obtain ⟨g, cs, h1, h2, h3⟩ := h
  have hlt : g < w.heap.size := by
    rcases Nat.lt_or_ge g w.heap.size with h | h
    · exact h
    · rw [Array.getElem?_eq_none h] at h2; cases h2
  exact ⟨g, cs, h1, (hb.block g hlt).trans h2, h3⟩
theorem belowDrewR {a W : World} (h : Below a.heap.size a W) : Below a.heap.size a W.drew := below_drewN h 1
theorem below_dnR {a W : World} (h : Below a.heap.size a W) (n : Nat) : Below a.heap.size a (W.drewN n) := below_drewN h n
theorem blk_range {w : World} {g : Nat} {t : TypeId} {k : Ky} (h : Blk w g t (bytesOf 32 k).toArray) : w.rangeAt g 0 (bytesOf 32 k) := fun j v hv => by
  rw [Nat.zero_add, h.cell]; exact List.getElem?_toArray.trans hv
theorem range_below {a W : World} {g : Nat} {cs : List Value} (h : Below a.heap.size a W) (hg : g < a.heap.size) (hr : a.rangeAt g 0 cs) : W.rangeAt g 0 cs := fun j v hv => (h.cell (p := ⟨g, 0 + j, none⟩) hg).trans (hr j v hv)

/-- what Verify says, for whatever numbers -/
def verR (rk lf : Ky) (a b : Int) (ps : List Ky) : Bool := if 0 ≤ a ∧ a < b then verifyB rk lf a.toNat b.toNat ps else false
theorem mver_z (W : World) (rk : Ky) (A : Option Addr) (l c : Nat) (f : Nat → UInt8) (a b : Int) (P : Option Addr) (m cp : Nat) (ps : List Ky) (hr : Reads W W.heap.size 1 A l (bytesOf l f)) (hl : l ≤ 1000) (hb : b ≤ 1073741823) (hk : KeysAt W P m cp ps) (hm : m ≤ 64) :
    Calls Try.prog 19 #[keyV rk, .slice A l c, .int .i64 a, .int .i64 b, .slice P m cp] W fun e w' => e = .returned (.bool (verR rk (leafK l f) a b ps)) ∧ Below W.heap.size W w' := by
  unfold verR
  by_cases h : 0 ≤ a ∧ a < b
  · rw [if_pos h]
    have := mverify_any W rk A l c f a.toNat b.toNat P m cp ps hr (by omega) (by omega) (by omega) hk hm
    rw [show ((a.toNat : Nat) : Int) = a by omega, show ((b.toNat : Nat) : Int) = b by omega] at this
    exact this
  · rw [if_neg h]
    exact mverify_out W rk A l c a b P m cp (by omega)
theorem rver_z (W : World) (rk : Ky) (A : Option Addr) (l c : Nat) (f : Nat → UInt8) (a b : Int) (P : Option Addr) (m cp : Nat) (ps : List Ky) (hr : Reads W W.heap.size 1 A l (bytesOf l f)) (hl : l ≤ 1000) (hb : b ≤ 1073741823) (hk : KeysAt W P m cp ps) (hm : m ≤ 64) :
    Calls Try.prog 20 #[keyV rk, .slice A l c, .int .i64 a, .int .i64 b, .slice P m cp] W fun e w' => e = .returned (.bool (verR rk (leafK l f) a b ps)) ∧ Below W.heap.size W w' := by
  unfold verR
  by_cases h : 0 ≤ a ∧ a < b
  · rw [if_pos h]
    have := rverify_any W rk A l c f a.toNat b.toNat P m cp ps hr (by omega) (by omega) (by omega) hk hm
    rw [show ((a.toNat : Nat) : Int) = a by omega, show ((b.toNat : Nat) : Int) = b by omega] at this
    exact this
  · rw [if_neg h]
    exact rverify_out W rk A l c a b P m cp (by omega)

/-- what stands ahead of the last statement -/
def AtV (w0 w : World) (v17 v19 v20 v21 v22 : Value) : Prop :=
  ∃ (g : Nat) (rk : Ky) (A : Option Addr) (l c : Nat) (f : Nat → UInt8) (P : Option Addr) (m cp : Nat) (ps : List Ky) (a b : Int),
    v17 = .slice P m cp ∧ v19 = .pointer (some ⟨g, 0, none⟩) ∧ v20 = .slice A l c ∧ v21 = .int .i64 a ∧ v22 = .int .i64 b ∧
    Blk w g 24 (bytesOf 32 rk).toArray ∧ Reads w w.heap.size 1 A l (bytesOf l f) ∧ l ≤ 1000 ∧ KeysAt w P m cp ps ∧ m ≤ 64 ∧ b ≤ 1073741823 ∧ Below w0.heap.size w0 w

set_option maxRecDepth 100000 in
set_option maxHeartbeats 40000000 in
attribute [local go_sem ↓] wp_store_key in
attribute [local go_sem] storeRow_eq storeRow_key isKey_keyV isKey_keyV' in
theorem merRefuses_any (w : World) (A : Option Addr) (n c b o : Nat) (f : Nat → UInt8) (x at_ how : Nat) (kx : Ky) (i k : Int) (hx : x < 256) (hat : at_ < 256) (hhow : how < 256) (hi1 : -9223372036854775808 ≤ i) (hi2 : i ≤ 9223372036854775807) (hk1 : -9223372036854775808 ≤ k) (hk2 : k ≤ 9223372036854775807)
    (hnc : n ≤ c) (hcm : c ≤ 9223372036854775807) (hA : 0 < n → A = some ⟨b, o, none⟩) (hc : ∀ j, j < n → w.cell? ⟨b, o + j, none⟩ = some (.int .u8 ((f j).toNat : Int))) :
    Calls Try.prog 6 #[.slice A n c, .int .u8 (x : Int), .int .u8 (at_ : Int), .int .u8 (how : Int), .agg (bytesOf 32 kx).toArray, .int .i64 i, .int .i64 k] w fun e w' => e = .returned (.bool true) ∧ Below w.heap.size w w' := by
  obtain ⟨cx, hcx⟩ : ∃ cx, (bytesOf 32 kx).toArray = cx := ⟨_, rfl⟩
  rw [hcx]
  have HCX := Lib.hid hcx
  have hlv : ∀ W, Below w.heap.size w W → Calls Try.prog 9 #[.slice A n c, .int .u8 (x : Int)] W fun e w' => ∃ v, e = .returned v ∧ ListL W w' v (x % 20) (leafF n f) ∧ Below W.heap.size W w' := fun W hW =>
    leaves_any W A n c b o f x hx hnc hcm hA (fun j hj => (hW.cell (p := ⟨b, o + j, none⟩) (World.block_lt_of_cell? w _ (hc j hj))).trans (hc j hj))
  have HLV := Lib.hid hlv
  clear hcx hlv hA hc
  go_enter Try.func6, Try.ntmps6
  by_cases hbig : 100 < n
  · have hbi : (100 : Int) < n := by omega
    go_wp2_with fail
    generalize hwa : World.alloc w _ = wa
    have hb0 : Below w.heap.size w wa := by rw [← hwa]; exact (Below.refl _ _).alloc (Nat.le_refl _) _
    have ha0 : Blk wa w.heap.size 24 cx := by rw [← hwa]; exact Blk.new w _ cx
    clear hwa
    have HA0 := Lib.hid ha0
    have HB0 := Lib.hid hb0
    have hz0 := hb0.size
    clear ha0 hb0
    refine (known_any _).mono ?_
    rintro e w1 ⟨rfl, hb1⟩
    have HB := Lib.hid (HB0.out.trans (hb1.mono hz0))
    clear hb1
    go_wp2_with fail
    go_ret
    exact ⟨rfl, HB.out⟩
  · have hbi : ¬ (100 : Int) < n := by omega
    obtain ⟨m, hm⟩ : ∃ m, x % 20 = m := ⟨_, rfl⟩
    have hml : m < 20 := by omega
    obtain ⟨F, hF⟩ : ∃ F, leafF n f = F := ⟨_, rfl⟩
    simp only [hm, hF] at HLV
    clear hm hF
    go_wp2_with fail
    generalize hwa : World.alloc w _ = wa
    have hb0 : Below w.heap.size w wa := by rw [← hwa]; exact (Below.refl _ _).alloc (Nat.le_refl _) _
    have ha0 : Blk wa w.heap.size 24 cx := by rw [← hwa]; exact Blk.new w _ cx
    clear hwa
    have HA0 := Lib.hid ha0
    have HB0 := Lib.hid hb0
    have hz0 := hb0.size
    clear ha0 hb0
    refine (HLV.out wa HB0.out).mono ?_
    rintro e w1 ⟨v, rfl, hl, hb1⟩
    obtain ⟨Al, cl, rfl, hrows⟩ := hl.rows hb1
    have HB1 := Lib.hid (HB0.out.trans (hb1.mono hz0))
    have HA1 := Lib.hid (HA0.out.below hb1 HA0.out.lt)
    have HR1 := Lib.hid hrows
    clear hl hb1 hrows HLV HB0 HA0
    by_cases hm0 : m = 0
    · subst hm0
      go_wp2_with fail
      refine (mroot_any 0 (by omega) w1 Al cl _ _ HR1.out).mono ?_
      rintro e w2 ⟨rfl, hb2⟩
      have HB2 := Lib.hid (HB1.out.trans (hb2.mono HB1.out.size))
      clear hb2
      go_wp2_with fail
      refine (mverify_out w2 _ none 0 0 0 0 none 0 0 (.inr (by omega))).mono ?_
      rintro e w3 ⟨rfl, hb3⟩
      have HB3 := Lib.hid (HB2.out.trans (hb3.mono HB2.out.size))
      clear hb3
      go_wp2_with fail
      refine (known_any _).mono ?_
      rintro e w4 ⟨rfl, hb4⟩
      have HB := Lib.hid (HB3.out.trans (hb4.mono HB3.out.size))
      clear hb4
      go_wp2_with fail
      go_ret
      exact ⟨rfl, HB.out⟩
    · have e0 : ((m : Int) == 0) = false := by simp; omega
      have hm1 : (0 : Int) < m := by omega
      obtain ⟨j, hj⟩ : ∃ j, at_ % m = j := ⟨_, rfl⟩
      have hjm : j < m := by rw [← hj]; exact Nat.mod_lt _ (by omega)
      have q1 : ((at_ : Int) % (m : Int)) = (j : Int) := by omega
      have E1 := Lib.hid q1
      clear hj q1 hm0
      go_wp2_with fail
      rw [E1.out]
      have hrp := rproof_any m (by omega) w1 Al cl _ _ j HR1.out hjm
      refine hrp.mono ?_
      clear hrp
      have hpl : (pathK m j (fun _ => 1) F).length ≤ m := pathK_len _ _ _ _
      obtain ⟨ps, hps⟩ : ∃ ps, pathK m j (fun _ => 1) F = ps := ⟨_, rfl⟩
      rw [hps] at hpl ⊢
      obtain ⟨pl, hple⟩ : ∃ pl, ps.length = pl := ⟨_, rfl⟩
      rw [hple] at hpl
      clear hps
      rintro e w2 ⟨Ap, cp, rfl, hb2, ho2⟩
      rw [hple] at ho2 ⊢
      have HO2 := Lib.hid ho2
      have HB2 := Lib.hid (HB1.out.trans (hb2.mono HB1.out.size))
      have HA2 := Lib.hid (HA1.out.below hb2 HA1.out.lt)
      have HR2 := Lib.hid (HR1.out.below hb2)
      have HPLE := Lib.hid hple
      have hz2 := HB2.out.size
      have hz12 := hb2.size
      clear ho2 hb2 hple HA1 HR1
      obtain ⟨_, _, bl, ol, hAl, hrr⟩ := id HR2.out
      obtain rfl := hAl (by omega)
      obtain ⟨A', c', y0, hrd, _⟩ := hrr j hjm
      have HRD := Lib.hid hrd
      obtain ⟨kr, hkr⟩ : ∃ kr, rootK m (fun _ => 1) F = kr := ⟨_, rfl⟩
      have hRR : Hid (∀ W, Below w2.heap.size w2 W → Calls Try.prog 11 #[.slice (some ⟨bl, ol, none⟩) m cl] W fun e w' => e = .returned (keyV kr) ∧ Below W.heap.size W w') := fun W hW => by rw [← hkr]; exact rroot_any m (by omega) W _ cl _ _ (HR2.out.below hW)
      have hbl : bl < w2.heap.size := World.block_lt_of_cell? w2 _ y0
      have HCELL : Hid (∀ W, Below w2.heap.size w2 W → W.cell? ⟨bl, ol + j, none⟩ = some (.slice A' 1 c')) := fun W hW => (hW.cell (p := ⟨bl, ol + j, none⟩) hbl).trans y0
      have hj0 : (0 : Int) ≤ j := by omega
      have hjm' : (j : Int) < m := by omega
      have HBC := Lib.hid (Below.refl w2.heap.size w2)
      clear hrr hAl hrd hkr
      go_upto_region 8 with (fail)
      go_cut [19, 20, 21, 22] (fun s19 s20 s21 s22 wx => ∃ g : Nat, s19 = .pointer (some ⟨g, 0, none⟩) ∧ s20 = .slice A' 1 c' ∧ s21 = .int .i64 (j : Int) ∧ s22 = .int .i64 (m : Int) ∧ w2.heap.size ≤ g ∧ Blk wx g 24 (bytesOf 32 kr).toArray ∧ Below w2.heap.size w2 wx)
      case first =>
        refine wp_region_noPanic ?_
        refine wp_region_held_drew (S := fun w' => w'.cell? ⟨bl, ol + j, none⟩ = some (.slice A' 1 c')) (by kernel_rfl) y0 (fun hHeld => ?_)
        refine wpAnyH_take (i := 0) (oi := _) (v := ?_) rfl (by kernel_rfl) (by kernel_rfl) (by kernel_rfl) (fun _ _ _ h => h) (Or.inl ⟨by rfl, ?_⟩) (by assumption) ?_
        rotate_left
        · intro w hSw
          (try dsimp only at hSw)
          go_simp
          all_goals (with_reducible rfl)
        try simp only [Act.put, List.setIfInBounds_toArray, List.set_cons_zero, List.set_cons_succ]
        refine wpAnyH_take (i := 2) (oi := _) (v := ?_) rfl (by kernel_rfl) (by kernel_rfl) (by kernel_rfl) (fun _ _ _ h => h) (Or.inl ⟨by rfl, ?_⟩) (by assumption) ?_
        rotate_left
        · intro w hSw
          (try dsimp only at hSw)
          go_simp
          all_goals (with_reducible rfl)
        try simp only [Act.put, List.setIfInBounds_toArray, List.set_cons_zero, List.set_cons_succ]
        refine wpAnyH_take (i := 3) (oi := _) (v := ?_) rfl (by kernel_rfl) (by kernel_rfl) (by kernel_rfl) (fun _ _ _ h => h) (Or.inl ⟨by rfl, ?_⟩) (by assumption) ?_
        rotate_left
        · intro w hSw
          (try dsimp only at hSw)
          go_simp
          all_goals (with_reducible rfl)
        try simp only [Act.put, List.setIfInBounds_toArray, List.set_cons_zero, List.set_cons_succ]
        refine wpAnyH_take (i := 4) (oi := _) (v := ?_) rfl (by kernel_rfl) (by kernel_rfl) (by kernel_rfl) (fun _ _ _ h => h) (Or.inl ⟨by rfl, ?_⟩) (by assumption) ?_
        rotate_left
        · intro w hSw
          (try dsimp only at hSw)
          go_simp
          all_goals (with_reducible rfl)
        try simp only [Act.put, List.setIfInBounds_toArray, List.set_cons_zero, List.set_cons_succ]
        refine wpAnyH_take (i := 5) (oi := _) (v := ?_) rfl (by kernel_rfl) (by kernel_rfl) (by kernel_rfl) (fun _ _ _ h => h) (Or.inl ⟨by rfl, ?_⟩) (by assumption) ?_
        rotate_left
        · intro w hSw
          (try dsimp only at hSw)
          go_simp
          all_goals (with_reducible rfl)
        try simp only [Act.put, List.setIfInBounds_toArray, List.set_cons_zero, List.set_cons_succ]
        refine wpAnyH_take (i := 6) (oi := _) (v := ?_) rfl (by kernel_rfl) (by kernel_rfl) (by kernel_rfl) (fun _ _ _ h => h) (Or.inl ⟨by rfl, ?_⟩) (by assumption) ?_
        rotate_left
        · intro w hSw
          (try dsimp only at hSw)
          go_simp
          all_goals (with_reducible rfl)
        try simp only [Act.put, List.setIfInBounds_toArray, List.set_cons_zero, List.set_cons_succ]
        refine wpAnyH_take (i := 7) (oi := _) (v := ?_) rfl (by kernel_rfl) (by kernel_rfl) (by kernel_rfl) (fun _ _ _ h => h) (Or.inl ⟨by rfl, ?_⟩) (by assumption) ?_
        rotate_left
        · intro w hSw
          (try dsimp only at hSw)
          go_simp
          all_goals (with_reducible rfl)
        try simp only [Act.put, List.setIfInBounds_toArray, List.set_cons_zero, List.set_cons_succ]
        refine wpAnyH_take (i := 8) (oi := _) (v := ?_) rfl (by kernel_rfl) (by kernel_rfl) (by kernel_rfl) (fun _ _ _ h => h) (Or.inl ⟨by rfl, ?_⟩) (by assumption) ?_
        rotate_left
        · intro w hSw
          (try dsimp only at hSw)
          go_simp
          all_goals (with_reducible rfl)
        try simp only [Act.put, List.setIfInBounds_toArray, List.set_cons_zero, List.set_cons_succ]
        refine wpAnyH_ready (rs := [1, 9]) (by kernel_rfl) (by simp) ?_
        refine AllReadyH.cons (o := _) rfl (fun K hK => ?_) (AllReadyH.cons (o := _) rfl (fun K hK => ?_) AllReadyH.nil)
        · go_simp
          go_at_call 11
          (with_reducible refine (hRR.out _ ?_).mono ?_)
          · repeat (first | (with_reducible exact HBC.out) | (with_reducible refine belowDrewR ?_) | (with_reducible refine below_dnR ?_ _) | (with_reducible refine below_al ?_ _))
          rintro e w4 ⟨rfl, hb4⟩
          have hBEL : Below w2.heap.size w2 w4 := below_step (a := w2) (by repeat (first | (with_reducible exact HBC.out) | (with_reducible refine belowDrewR ?_) | (with_reducible refine below_dnR ?_ _) | (with_reducible refine below_al ?_ _))) hb4
          have HBC := Lib.hid hBEL
          clear hb4 hBEL
          have hz4 := HBC.out.size
          refine hK.out _ _ (HCELL.out _ HBC.out) (fun hHeld => ?_)
          clear hK K
          try simp only [Act.put, List.setIfInBounds_toArray, List.set_cons_zero, List.set_cons_succ]
          refine wpAnyH_ready (rs := [9]) (by kernel_rfl) (by simp) ?_
          refine AllReadyH.cons (o := _) rfl (fun K hK => ?_) AllReadyH.nil
          go_simp
          refine hK.out _ _ (HCELL.out _ (by repeat (first | (with_reducible exact HBC.out) | (with_reducible refine belowDrewR ?_) | (with_reducible refine below_dnR ?_ _) | (with_reducible refine below_al ?_ _)))) (fun hHeld => ?_)
          clear hK K
          try simp only [Act.put, List.setIfInBounds_toArray, List.set_cons_zero, List.set_cons_succ]
          generalize hwq : World.alloc _ _ = wq
          have hbq : Below w2.heap.size w2 wq := by rw [← hwq]; repeat (first | (with_reducible exact HBC.out) | (with_reducible refine belowDrewR ?_) | (with_reducible refine below_dnR ?_ _) | (with_reducible refine below_al ?_ _))
          have hkq : KeyAt wq (.pointer (some ⟨w4.heap.size, 0, none⟩)) := by rw [← hwq]; exact ⟨_, _, rfl, heap_alloc_new _ _, rfl⟩
          clear hwq
          have HBC := Lib.hid hbq
          clear hbq
          refine wpAnyH_ready (rs := [10]) (by kernel_rfl) (by simp) ?_
          refine AllReadyH.cons (o := _) rfl (fun K hK => ?_) AllReadyH.nil
          rw [if_pos (by rfl)]
          refine store_key_step _ _ _ _ _ _ _ _ _ _ (by exact hkq) (by exact isKey_keyV' kr) ?_
          obtain ⟨_, cq, hq1, hq2, hq3⟩ := hkq
          injection hq1 with hq1
          injection hq1 with hq1
          injection hq1 with hq1
          subst hq1
          refine hK.out _ _ (HCELL.out _ (below_setRow HBC.out (by omega) _)) (fun hHeld => ?_)
          clear hK K
          try simp only [Act.put, List.setIfInBounds_toArray, List.set_cons_zero, List.set_cons_succ]
          refine wpAnyH_take (i := 11) (oi := _) (v := ?_) rfl (by kernel_rfl) (by kernel_rfl) (by kernel_rfl) (fun _ _ _ h => h) (Or.inl ⟨by rfl, ?_⟩) (by assumption) ?_
          rotate_left
          · intro w hSw
            (try dsimp only at hSw)
            go_simp
            all_goals (with_reducible rfl)
          try simp only [Act.put, List.setIfInBounds_toArray, List.set_cons_zero, List.set_cons_succ]
          refine wpAnyH_take (i := 12) (oi := _) (v := ?_) rfl (by kernel_rfl) (by kernel_rfl) (by kernel_rfl) (fun _ _ _ h => h) (Or.inl ⟨by rfl, ?_⟩) (by assumption) ?_
          rotate_left
          · intro w hSw
            (try dsimp only at hSw)
            go_simp
            all_goals (with_reducible rfl)
          try simp only [Act.put, List.setIfInBounds_toArray, List.set_cons_zero, List.set_cons_succ]
          refine wpAnyH_take (i := 13) (oi := _) (v := ?_) rfl (by kernel_rfl) (by kernel_rfl) (by kernel_rfl) (fun _ _ _ h => h) (Or.inl ⟨by rfl, ?_⟩) (by assumption) ?_
          rotate_left
          · intro w hSw
            (try dsimp only at hSw)
            go_simp
            all_goals (with_reducible rfl)
          try simp only [Act.put, List.setIfInBounds_toArray, List.set_cons_zero, List.set_cons_succ]
          refine wpAnyH_done (by kernel_rfl) ?_ _
          refine NoPanic.normal ?_
          go_wp2_with fail
          go_meet
          exact ⟨_, rfl, rfl, rfl, rfl, by omega, setRow_same _ _ _ _ _ hq2, below_setRow HBC.out (by omega) _⟩
        · go_simp
          refine hK.out _ _ (HCELL.out _ (by repeat (first | (with_reducible exact HBC.out) | (with_reducible refine belowDrewR ?_) | (with_reducible refine below_dnR ?_ _) | (with_reducible refine below_al ?_ _)))) (fun hHeld => ?_)
          clear hK K
          try simp only [Act.put, List.setIfInBounds_toArray, List.set_cons_zero, List.set_cons_succ]
          generalize hwq : World.alloc _ _ = wq
          have hbq : Below w2.heap.size w2 wq := by rw [← hwq]; repeat (first | (with_reducible exact HBC.out) | (with_reducible refine belowDrewR ?_) | (with_reducible refine below_dnR ?_ _) | (with_reducible refine below_al ?_ _))
          have hkq : KeyAt wq (.pointer (some ⟨w2.heap.size, 0, none⟩)) := by rw [← hwq]; exact ⟨_, _, rfl, heap_alloc_new _ _, rfl⟩
          clear hwq
          have HBC := Lib.hid hbq
          clear hbq
          refine wpAnyH_ready (rs := [1]) (by kernel_rfl) (by simp) ?_
          refine AllReadyH.cons (o := _) rfl (fun K hK => ?_) AllReadyH.nil
          go_simp
          go_at_call 11
          (with_reducible refine (hRR.out _ ?_).mono ?_)
          · repeat (first | (with_reducible exact HBC.out) | (with_reducible refine belowDrewR ?_) | (with_reducible refine below_dnR ?_ _) | (with_reducible refine below_al ?_ _))
          rintro e w4 ⟨rfl, hb4⟩
          have hBEL : Below w2.heap.size w2 w4 := below_step (a := w2) (by repeat (first | (with_reducible exact HBC.out) | (with_reducible refine belowDrewR ?_) | (with_reducible refine below_dnR ?_ _) | (with_reducible refine below_al ?_ _))) hb4
          have hk4 : KeyAt w4 _ := KeyAt.below (w := World.drew wq) hkq hb4
          have hkq := hk4
          clear hk4
          have HBC := Lib.hid hBEL
          clear hb4 hBEL
          have hz4 := HBC.out.size
          refine hK.out _ _ (HCELL.out _ HBC.out) (fun hHeld => ?_)
          clear hK K
          try simp only [Act.put, List.setIfInBounds_toArray, List.set_cons_zero, List.set_cons_succ]
          refine wpAnyH_ready (rs := [10]) (by kernel_rfl) (by simp) ?_
          refine AllReadyH.cons (o := _) rfl (fun K hK => ?_) AllReadyH.nil
          rw [if_pos (by rfl)]
          refine store_key_step _ _ _ _ _ _ _ _ _ _ (by exact hkq) (by exact isKey_keyV' kr) ?_
          obtain ⟨_, cq, hq1, hq2, hq3⟩ := hkq
          injection hq1 with hq1
          injection hq1 with hq1
          injection hq1 with hq1
          subst hq1
          refine hK.out _ _ (HCELL.out _ (below_setRow HBC.out (by omega) _)) (fun hHeld => ?_)
          clear hK K
          try simp only [Act.put, List.setIfInBounds_toArray, List.set_cons_zero, List.set_cons_succ]
          refine wpAnyH_take (i := 11) (oi := _) (v := ?_) rfl (by kernel_rfl) (by kernel_rfl) (by kernel_rfl) (fun _ _ _ h => h) (Or.inl ⟨by rfl, ?_⟩) (by assumption) ?_
          rotate_left
          · intro w hSw
            (try dsimp only at hSw)
            go_simp
            all_goals (with_reducible rfl)
          try simp only [Act.put, List.setIfInBounds_toArray, List.set_cons_zero, List.set_cons_succ]
          refine wpAnyH_take (i := 12) (oi := _) (v := ?_) rfl (by kernel_rfl) (by kernel_rfl) (by kernel_rfl) (fun _ _ _ h => h) (Or.inl ⟨by rfl, ?_⟩) (by assumption) ?_
          rotate_left
          · intro w hSw
            (try dsimp only at hSw)
            go_simp
            all_goals (with_reducible rfl)
          try simp only [Act.put, List.setIfInBounds_toArray, List.set_cons_zero, List.set_cons_succ]
          refine wpAnyH_take (i := 13) (oi := _) (v := ?_) rfl (by kernel_rfl) (by kernel_rfl) (by kernel_rfl) (fun _ _ _ h => h) (Or.inl ⟨by rfl, ?_⟩) (by assumption) ?_
          rotate_left
          · intro w hSw
            (try dsimp only at hSw)
            go_simp
            all_goals (with_reducible rfl)
          try simp only [Act.put, List.setIfInBounds_toArray, List.set_cons_zero, List.set_cons_succ]
          refine wpAnyH_done (by kernel_rfl) ?_ _
          refine NoPanic.normal ?_
          go_wp2_with fail
          go_meet
          exact ⟨_, rfl, rfl, rfl, rfl, by omega, setRow_same _ _ _ _ _ hq2, below_setRow HBC.out (by omega) _⟩
      case rest =>
        obtain ⟨g, rfl, rfl, rfl, rfl, hgz, hkg, hbx⟩ := hcut
        have hbw : Below w.heap.size w wc := HB2.out.trans (hbx.mono hz2)
        have HBW := Lib.hid hbw
        have HKG := Lib.hid hkg
        have HOX := Lib.hid (owns_below HO2.out hbx)
        have HAX := Lib.hid (HA2.out.below hbx HA2.out.lt)
        have HRX := Lib.hid ((HRD.out.below hbx).more hbx.size)
        have hzx := hbw.size
        have hzx2 := hbx.size
        have hgl := hkg.lt
        have HBX := Lib.hid hbx
        clear hbw hkg hbx HA2 HR2 HBC hRR HCELL hbl hz12
        go_upto_block 0 with (fail)
        go_cut [17, 19, 20, 21, 22, 61] (fun s17 s19 s20 s21 s22 s61 wx => AtV w wx s17 s19 s20 s21 s22)
        case first =>
          have hkgc := HKG.out
          obtain ⟨t, ht⟩ : ∃ t, how % 8 = t := ⟨_, rfl⟩
          have htl : t < 8 := by omega
          have et : ((how : Int) % 8) = (t : Int) := by omega
          rw [et]
          clear et
          rcases (show t = 0 ∨ t = 1 ∨ t = 2 ∨ t = 3 ∨ t = 4 ∨ t = 5 ∨ t = 6 ∨ t = 7 by omega) with h0 | h0 | h0 | h0 | h0 | h0 | h0 | h0
          · skip
            subst h0
            obtain ⟨i0, hi0, hk0, hk1, hk2⟩ := info_parts key_info
            have r11 : wc.rangeAt w.heap.size 0 (bytesOf 32 kx) := blk_range (by rw [HCX.out]; exact HAX.out)
            have hl11 : w.heap.size < wc.heap.size := HAX.out.lt
            have HRP : Hid (∀ W, Below wc.heap.size wc W → Reads W W.heap.size 32 Ap pl (keysOf ps)) := fun W hW => ((Reads.of_own HOX.out).below hW).more hW.size
            have HBC := Lib.hid (Below.refl wc.heap.size wc)
            have hu := Try.underlying24
            have hi6 := key_size kx
            have hps : ps.length = pl := HPLE.out
            go_wp2_with fail
            refine wp_region_noPanic ?_
            refine wp_region_held_drew (S := fun w' => w'.rangeAt w.heap.size 0 (bytesOf 32 kx)) (by kernel_rfl) r11 (fun hHeld => ?_)
            refine wpAnyH_take (i := 1) (oi := _) (v := ?_) rfl (by kernel_rfl) (by kernel_rfl) (by kernel_rfl) (fun _ _ _ h => h) (Or.inl ⟨by rfl, ?_⟩) (by assumption) ?_
            rotate_left
            · intro w hSw
              (try dsimp only at hSw)
              go_simp
              all_goals (with_reducible rfl)
            try simp only [Act.put, List.setIfInBounds_toArray, List.set_cons_zero, List.set_cons_succ]
            refine wpAnyH_take (i := 3) (oi := _) (v := _) rfl (by kernel_rfl) (by kernel_rfl) (by kernel_rfl) (fun _ _ _ h => h) (yieldsIf_load_mid (S := fun w' => w'.rangeAt w.heap.size 0 (bytesOf 32 kx)) (by rfl) _ _ rfl _ _ rfl _ _ (fun w hSw => hSw) hu rfl hi6) (by assumption) ?_
            try simp only [Act.put, List.setIfInBounds_toArray, List.set_cons_zero, List.set_cons_succ]
            refine wpAnyH_ready (rs := [0, 4]) (by kernel_rfl) (by simp) ?_
            refine AllReadyH.cons (o := ⟨some 79, _, _, _, _, _⟩) rfl (fun K hK => ?_) (AllReadyH.cons (o := ⟨some 83, _, _, _, _, _⟩) rfl (fun K hK => ?_) (AllReadyH.nil))
            · go_simp
              refine hK.out _ _ (range_below (a := wc) (by repeat (first | (with_reducible exact HBC.out) | (with_reducible refine belowDrewR ?_) | (with_reducible refine below_dnR ?_ _) | (with_reducible refine below_al ?_ _))) hl11 r11) (fun hHeld => ?_)
              clear hK K
              try simp only [Act.put, List.setIfInBounds_toArray, List.set_cons_zero, List.set_cons_succ]
              generalize hwq : World.alloc _ _ = wq0
              have hbq : Below wc.heap.size wc wq0 := by rw [← hwq]; repeat (first | (with_reducible exact HBC.out) | (with_reducible refine belowDrewR ?_) | (with_reducible refine below_dnR ?_ _) | (with_reducible refine below_al ?_ _))
              have HO : Hid (wq0.ownsRow wc.heap.size 24 32 (.slice (some ⟨wc.heap.size, 0, none⟩) 0 0) 0 []) := by show World.ownsRow _ _ _ _ _ _ _; rw [← hwq]; exact lit_own0 _ _ _
              have hsz0 : wc.heap.size < wq0.heap.size := by rw [← hwq]; simp
              clear hwq
              have HBC := Lib.hid hbq
              clear hbq
              have hb79 : wc.heap.size ≤ wc.heap.size := by omega
              refine wpAnyH_ready (rs := [2, 4]) (by kernel_rfl) (by simp) ?_
              refine AllReadyH.cons (o := ⟨some 81, _, _, _, _, _⟩) rfl (fun K hK => ?_) (AllReadyH.cons (o := ⟨some 83, _, _, _, _, _⟩) rfl (fun K hK => ?_) (AllReadyH.nil))
              · rw [if_pos (by rfl)]
                refine wp_append_any _ (.tmp 79) (.tmp 80) _ rfl wc.heap.size 24 i0 _ 32 32 Try.underlying35 hi0 hk0 hk1 hk2 rfl (by omega) _ 0 [] rfl HO.out _ Ap pl cp _ rfl (HRP.out _ (by repeat (first | (with_reducible exact HBC.out) | (with_reducible refine belowDrewR ?_) | (with_reducible refine below_dnR ?_ _) | (with_reducible refine below_al ?_ _)))) (keysOf_oneCell _) (by unfold maxLen; omega) (by omega) (by first | omega | (simp; omega)) ?_
                intro v5 w5 ho5 hg5 hat5
                replace hg5 := grown_undrew hg5
                rw [Nat.zero_add, List.nil_append] at ho5
                have hb5 : Below wc.heap.size wc w5 := HBC.out.grown hg5 HBC.out.size (fun k hk => by have := (HO.out.lt k hk).1; omega)
                obtain ⟨A2, c2, rfl⟩ := own_form ho5
                have hsz2 : wq0.heap.size ≤ w5.heap.size := hg5.size
                have HO := Lib.hid ho5
                have HBC := Lib.hid hb5
                clear ho5 hg5 hat5 hb5
                refine hK.out _ _ (range_below HBC.out hl11 r11) (fun hHeld => ?_)
                clear hK K
                try simp only [Act.put, List.setIfInBounds_toArray, List.set_cons_zero, List.set_cons_succ]
                refine wpAnyH_ready (rs := [4]) (by kernel_rfl) (by simp) ?_
                refine AllReadyH.cons (o := ⟨some 83, _, _, _, _, _⟩) rfl (fun K hK => ?_) (AllReadyH.nil)
                · rw [if_pos (by rfl)]
                  refine wp_buildSlice 35 24 1 _ rfl (bytesOf 32 kx).toArray i0 _ Try.underlying35 hi0 hk0 (by rw [hk1]; omega) (by rw [hk1]; omega) (by simp only [List.map_toArray, List.map_cons, List.map_nil]; exact key_fill kx i0 hk1) ?_
                  have hkr4 := key_reads w5 kx
                  refine hK.out _ _ (range_below (a := wc) (by repeat (first | (with_reducible exact HBC.out) | (with_reducible refine belowDrewR ?_) | (with_reducible refine below_dnR ?_ _) | (with_reducible refine below_al ?_ _))) hl11 r11) (fun hHeld => ?_)
                  clear hK K
                  try simp only [Act.put, List.setIfInBounds_toArray, List.set_cons_zero, List.set_cons_succ]
                  generalize hwq : World.alloc w5 (.cells (bytesOf 32 kx).toArray 24) = wq4 at hkr4 hHeld ⊢
                  have hbq : Below wc.heap.size wc wq4 := by rw [← hwq]; repeat (first | (with_reducible exact HBC.out) | (with_reducible refine belowDrewR ?_) | (with_reducible refine below_dnR ?_ _) | (with_reducible refine below_al ?_ _))
                  have HK4 := Lib.hid hkr4
                  clear hkr4
                  have hal : (World.alloc _ _).ownsRow _ _ _ _ _ _ := HO.out.alloc (w := w5) (.cells (bytesOf 32 kx).toArray 24)
                  rw [hwq] at hal
                  have HO := Lib.hid hal
                  clear hal
                  have hsz4 : w5.heap.size < wq4.heap.size := by rw [← hwq]; simp
                  clear hwq
                  have HBC := Lib.hid hbq
                  clear hbq
                  refine wpAnyH_ready (rs := [5]) (by kernel_rfl) (by simp) ?_
                  refine AllReadyH.cons (o := ⟨some 84, _, _, _, _, _⟩) rfl (fun K hK => ?_) (AllReadyH.nil)
                  · rw [if_pos (by rfl)]
                    refine wp_append_any _ (.tmp 81) (.tmp 83) _ rfl wc.heap.size 24 i0 _ 32 32 Try.underlying35 hi0 hk0 hk1 hk2 rfl (by omega) _ pl _ rfl HO.out _ _ 1 1 _ rfl HK4.out (keysOf_oneCell _) (by unfold maxLen; omega) (by omega) (by first | omega | (simp; omega)) ?_
                    intro v5 w6 ho5 hg5 hat5
                    rw [← keysOf_append] at ho5
                    have hb5 : Below wc.heap.size wc w6 := HBC.out.grown hg5 HBC.out.size (fun k hk => by have := (HO.out.lt k hk).1; omega)
                    obtain ⟨A5, c5, rfl⟩ := own_form ho5
                    have hsz5 : wq4.heap.size ≤ w6.heap.size := hg5.size
                    have HO := Lib.hid ho5
                    have HBC := Lib.hid hb5
                    clear ho5 hg5 hat5 hb5
                    refine hK.out _ _ (range_below HBC.out hl11 r11) (fun hHeld => ?_)
                    clear hK K
                    try simp only [Act.put, List.setIfInBounds_toArray, List.set_cons_zero, List.set_cons_succ]
                    refine wpAnyH_take (i := 6) (oi := ⟨some 17, _, _, _, _, _⟩) (v := ?_) rfl (by kernel_rfl) (by kernel_rfl) (by kernel_rfl) (fun _ _ _ h => h) (Or.inl ⟨by rfl, ?_⟩) (by assumption) ?_
                    rotate_left
                    · intro w hSw
                      (try dsimp only at hSw)
                      go_simp
                      all_goals (with_reducible rfl)
                    try simp only [Act.put, List.setIfInBounds_toArray, List.set_cons_zero, List.set_cons_succ]
                    refine wpAnyH_done (by kernel_rfl) ?_ _
                    refine NoPanic.normal ?_
                    go_wp2_with fail
                    go_meet
                    have hsz := HBC.out.size
                    exact ⟨g, kr, A', 1, c', F j, A5, (pl + 1), c5, (ps ++ [kx]), _, _, rfl, rfl, rfl, rfl, rfl, HKG.out.below HBC.out HKG.out.lt, (HRX.out.below HBC.out).more HBC.out.size, by omega, KeysAt.of_own HO.out, by omega, by omega, HBW.out.trans (HBC.out.mono hzx)⟩
              · rw [if_pos (by rfl)]
                refine wp_buildSlice 35 24 1 _ rfl (bytesOf 32 kx).toArray i0 _ Try.underlying35 hi0 hk0 (by rw [hk1]; omega) (by rw [hk1]; omega) (by simp only [List.map_toArray, List.map_cons, List.map_nil]; exact key_fill kx i0 hk1) ?_
                have hkr4 := key_reads (World.drew wq0) kx
                rw [show (World.drew wq0).heap.size = wq0.heap.size from rfl] at hkr4 ⊢
                refine hK.out _ _ (range_below (a := wc) (by repeat (first | (with_reducible exact HBC.out) | (with_reducible refine belowDrewR ?_) | (with_reducible refine below_dnR ?_ _) | (with_reducible refine below_al ?_ _))) hl11 r11) (fun hHeld => ?_)
                clear hK K
                try simp only [Act.put, List.setIfInBounds_toArray, List.set_cons_zero, List.set_cons_succ]
                generalize hwq : World.alloc (World.drew wq0) (.cells (bytesOf 32 kx).toArray 24) = wq4 at hkr4 hHeld ⊢
                have hbq : Below wc.heap.size wc wq4 := by rw [← hwq]; repeat (first | (with_reducible exact HBC.out) | (with_reducible refine belowDrewR ?_) | (with_reducible refine below_dnR ?_ _) | (with_reducible refine below_al ?_ _))
                have HK4 := Lib.hid hkr4
                clear hkr4
                have hal : (World.alloc _ _).ownsRow _ _ _ _ _ _ := HO.out.alloc (w := (World.drew wq0)) (.cells (bytesOf 32 kx).toArray 24)
                rw [hwq] at hal
                have HO := Lib.hid hal
                clear hal
                have hsz4 : wq0.heap.size < wq4.heap.size := by rw [← hwq]; simp
                clear hwq
                have HBC := Lib.hid hbq
                clear hbq
                refine wpAnyH_ready (rs := [2]) (by kernel_rfl) (by simp) ?_
                refine AllReadyH.cons (o := ⟨some 81, _, _, _, _, _⟩) rfl (fun K hK => ?_) (AllReadyH.nil)
                · rw [if_pos (by rfl)]
                  refine wp_append_any _ (.tmp 79) (.tmp 80) _ rfl wc.heap.size 24 i0 _ 32 32 Try.underlying35 hi0 hk0 hk1 hk2 rfl (by omega) _ 0 [] rfl HO.out _ Ap pl cp _ rfl (HRP.out _ (by repeat (first | (with_reducible exact HBC.out) | (with_reducible refine belowDrewR ?_) | (with_reducible refine below_dnR ?_ _) | (with_reducible refine below_al ?_ _)))) (keysOf_oneCell _) (by unfold maxLen; omega) (by omega) (by first | omega | (simp; omega)) ?_
                  intro v5 w5 ho5 hg5 hat5
                  rw [Nat.zero_add, List.nil_append] at ho5
                  have hb5 : Below wc.heap.size wc w5 := HBC.out.grown hg5 HBC.out.size (fun k hk => by have := (HO.out.lt k hk).1; omega)
                  have HK4 := Lib.hid ((Reads.grown_ne HK4.out hg5 (Nat.le_refl _) (by intro e; injection e with e; simp at e; omega)).more hg5.size)
                  obtain ⟨A2, c2, rfl⟩ := own_form ho5
                  have hsz2 : wq4.heap.size ≤ w5.heap.size := hg5.size
                  have HO := Lib.hid ho5
                  have HBC := Lib.hid hb5
                  clear ho5 hg5 hat5 hb5
                  refine hK.out _ _ (range_below HBC.out hl11 r11) (fun hHeld => ?_)
                  clear hK K
                  try simp only [Act.put, List.setIfInBounds_toArray, List.set_cons_zero, List.set_cons_succ]
                  refine wpAnyH_ready (rs := [5]) (by kernel_rfl) (by simp) ?_
                  refine AllReadyH.cons (o := ⟨some 84, _, _, _, _, _⟩) rfl (fun K hK => ?_) (AllReadyH.nil)
                  · rw [if_pos (by rfl)]
                    refine wp_append_any _ (.tmp 81) (.tmp 83) _ rfl wc.heap.size 24 i0 _ 32 32 Try.underlying35 hi0 hk0 hk1 hk2 rfl (by omega) _ pl _ rfl HO.out _ _ 1 1 _ rfl HK4.out (keysOf_oneCell _) (by unfold maxLen; omega) (by omega) (by first | omega | (simp; omega)) ?_
                    intro v5 w6 ho5 hg5 hat5
                    rw [← keysOf_append] at ho5
                    have hb5 : Below wc.heap.size wc w6 := HBC.out.grown hg5 HBC.out.size (fun k hk => by have := (HO.out.lt k hk).1; omega)
                    obtain ⟨A5, c5, rfl⟩ := own_form ho5
                    have hsz5 : w5.heap.size ≤ w6.heap.size := hg5.size
                    have HO := Lib.hid ho5
                    have HBC := Lib.hid hb5
                    clear ho5 hg5 hat5 hb5
                    refine hK.out _ _ (range_below HBC.out hl11 r11) (fun hHeld => ?_)
                    clear hK K
                    try simp only [Act.put, List.setIfInBounds_toArray, List.set_cons_zero, List.set_cons_succ]
                    refine wpAnyH_take (i := 6) (oi := ⟨some 17, _, _, _, _, _⟩) (v := ?_) rfl (by kernel_rfl) (by kernel_rfl) (by kernel_rfl) (fun _ _ _ h => h) (Or.inl ⟨by rfl, ?_⟩) (by assumption) ?_
                    rotate_left
                    · intro w hSw
                      (try dsimp only at hSw)
                      go_simp
                      all_goals (with_reducible rfl)
                    try simp only [Act.put, List.setIfInBounds_toArray, List.set_cons_zero, List.set_cons_succ]
                    refine wpAnyH_done (by kernel_rfl) ?_ _
                    refine NoPanic.normal ?_
                    go_wp2_with fail
                    go_meet
                    have hsz := HBC.out.size
                    exact ⟨g, kr, A', 1, c', F j, A5, (pl + 1), c5, (ps ++ [kx]), _, _, rfl, rfl, rfl, rfl, rfl, HKG.out.below HBC.out HKG.out.lt, (HRX.out.below HBC.out).more HBC.out.size, by omega, KeysAt.of_own HO.out, by omega, by omega, HBW.out.trans (HBC.out.mono hzx)⟩
            · rw [if_pos (by rfl)]
              refine wp_buildSlice 35 24 1 _ rfl (bytesOf 32 kx).toArray i0 _ Try.underlying35 hi0 hk0 (by rw [hk1]; omega) (by rw [hk1]; omega) (by simp only [List.map_toArray, List.map_cons, List.map_nil]; exact key_fill kx i0 hk1) ?_
              have hkr4 := key_reads (World.drew wc) kx
              rw [show (World.drew wc).heap.size = wc.heap.size from rfl] at hkr4 ⊢
              refine hK.out _ _ (range_below (a := wc) (by repeat (first | (with_reducible exact HBC.out) | (with_reducible refine belowDrewR ?_) | (with_reducible refine below_dnR ?_ _) | (with_reducible refine below_al ?_ _))) hl11 r11) (fun hHeld => ?_)
              clear hK K
              try simp only [Act.put, List.setIfInBounds_toArray, List.set_cons_zero, List.set_cons_succ]
              generalize hwq : World.alloc (World.drew wc) (.cells (bytesOf 32 kx).toArray 24) = wq4 at hkr4 hHeld ⊢
              have hbq : Below wc.heap.size wc wq4 := by rw [← hwq]; repeat (first | (with_reducible exact HBC.out) | (with_reducible refine belowDrewR ?_) | (with_reducible refine below_dnR ?_ _) | (with_reducible refine below_al ?_ _))
              have HK4 := Lib.hid hkr4
              clear hkr4
              have hsz4 : wc.heap.size < wq4.heap.size := by rw [← hwq]; simp
              clear hwq
              have HBC := Lib.hid hbq
              clear hbq
              refine wpAnyH_ready (rs := [0]) (by kernel_rfl) (by simp) ?_
              refine AllReadyH.cons (o := ⟨some 79, _, _, _, _, _⟩) rfl (fun K hK => ?_) (AllReadyH.nil)
              · go_simp
                refine hK.out _ _ (range_below (a := wc) (by repeat (first | (with_reducible exact HBC.out) | (with_reducible refine belowDrewR ?_) | (with_reducible refine below_dnR ?_ _) | (with_reducible refine below_al ?_ _))) hl11 r11) (fun hHeld => ?_)
                clear hK K
                try simp only [Act.put, List.setIfInBounds_toArray, List.set_cons_zero, List.set_cons_succ]
                generalize hwq : World.alloc _ _ = wq0
                have hbq : Below wc.heap.size wc wq0 := by rw [← hwq]; repeat (first | (with_reducible exact HBC.out) | (with_reducible refine belowDrewR ?_) | (with_reducible refine below_dnR ?_ _) | (with_reducible refine below_al ?_ _))
                have HO : Hid (wq0.ownsRow wq4.heap.size 24 32 (.slice (some ⟨wq4.heap.size, 0, none⟩) 0 0) 0 []) := by show World.ownsRow _ _ _ _ _ _ _; rw [← hwq]; exact lit_own0 _ _ _
                have HK4 : Hid (Reads wq0 wq0.heap.size 32 (some ⟨wc.heap.size, 0, none⟩) 1 (keysOf [kx])) := by show Reads _ _ _ _ _ _; rw [← hwq]; exact (HK4.out.alloc (Nat.le_refl _) _).more (by simp)
                have hsz0 : wq4.heap.size < wq0.heap.size := by rw [← hwq]; simp
                clear hwq
                have HBC := Lib.hid hbq
                clear hbq
                have hb79 : wc.heap.size ≤ wq4.heap.size := by omega
                refine wpAnyH_ready (rs := [2]) (by kernel_rfl) (by simp) ?_
                refine AllReadyH.cons (o := ⟨some 81, _, _, _, _, _⟩) rfl (fun K hK => ?_) (AllReadyH.nil)
                · rw [if_pos (by rfl)]
                  refine wp_append_any _ (.tmp 79) (.tmp 80) _ rfl wq4.heap.size 24 i0 _ 32 32 Try.underlying35 hi0 hk0 hk1 hk2 rfl (by omega) _ 0 [] rfl HO.out _ Ap pl cp _ rfl (HRP.out _ (by repeat (first | (with_reducible exact HBC.out) | (with_reducible refine belowDrewR ?_) | (with_reducible refine below_dnR ?_ _) | (with_reducible refine below_al ?_ _)))) (keysOf_oneCell _) (by unfold maxLen; omega) (by omega) (by first | omega | (simp; omega)) ?_
                  intro v5 w5 ho5 hg5 hat5
                  rw [Nat.zero_add, List.nil_append] at ho5
                  have hb5 : Below wc.heap.size wc w5 := HBC.out.grown hg5 HBC.out.size (fun k hk => by have := (HO.out.lt k hk).1; omega)
                  have HK4 := Lib.hid ((Reads.grown_ne HK4.out hg5 (Nat.le_refl _) (by intro e; injection e with e; simp at e; omega)).more hg5.size)
                  obtain ⟨A2, c2, rfl⟩ := own_form ho5
                  have hsz2 : wq0.heap.size ≤ w5.heap.size := hg5.size
                  have HO := Lib.hid ho5
                  have HBC := Lib.hid hb5
                  clear ho5 hg5 hat5 hb5
                  refine hK.out _ _ (range_below HBC.out hl11 r11) (fun hHeld => ?_)
                  clear hK K
                  try simp only [Act.put, List.setIfInBounds_toArray, List.set_cons_zero, List.set_cons_succ]
                  refine wpAnyH_ready (rs := [5]) (by kernel_rfl) (by simp) ?_
                  refine AllReadyH.cons (o := ⟨some 84, _, _, _, _, _⟩) rfl (fun K hK => ?_) (AllReadyH.nil)
                  · rw [if_pos (by rfl)]
                    refine wp_append_any _ (.tmp 81) (.tmp 83) _ rfl wq4.heap.size 24 i0 _ 32 32 Try.underlying35 hi0 hk0 hk1 hk2 rfl (by omega) _ pl _ rfl HO.out _ _ 1 1 _ rfl HK4.out (keysOf_oneCell _) (by unfold maxLen; omega) (by omega) (by first | omega | (simp; omega)) ?_
                    intro v5 w6 ho5 hg5 hat5
                    rw [← keysOf_append] at ho5
                    have hb5 : Below wc.heap.size wc w6 := HBC.out.grown hg5 HBC.out.size (fun k hk => by have := (HO.out.lt k hk).1; omega)
                    obtain ⟨A5, c5, rfl⟩ := own_form ho5
                    have hsz5 : w5.heap.size ≤ w6.heap.size := hg5.size
                    have HO := Lib.hid ho5
                    have HBC := Lib.hid hb5
                    clear ho5 hg5 hat5 hb5
                    refine hK.out _ _ (range_below HBC.out hl11 r11) (fun hHeld => ?_)
                    clear hK K
                    try simp only [Act.put, List.setIfInBounds_toArray, List.set_cons_zero, List.set_cons_succ]
                    refine wpAnyH_take (i := 6) (oi := ⟨some 17, _, _, _, _, _⟩) (v := ?_) rfl (by kernel_rfl) (by kernel_rfl) (by kernel_rfl) (fun _ _ _ h => h) (Or.inl ⟨by rfl, ?_⟩) (by assumption) ?_
                    rotate_left
                    · intro w hSw
                      (try dsimp only at hSw)
                      go_simp
                      all_goals (with_reducible rfl)
                    try simp only [Act.put, List.setIfInBounds_toArray, List.set_cons_zero, List.set_cons_succ]
                    refine wpAnyH_done (by kernel_rfl) ?_ _
                    refine NoPanic.normal ?_
                    go_wp2_with fail
                    go_meet
                    have hsz := HBC.out.size
                    exact ⟨g, kr, A', 1, c', F j, A5, (pl + 1), c5, (ps ++ [kx]), _, _, rfl, rfl, rfl, rfl, rfl, HKG.out.below HBC.out HKG.out.lt, (HRX.out.below HBC.out).more HBC.out.size, by omega, KeysAt.of_own HO.out, by omega, by omega, HBW.out.trans (HBC.out.mono hzx)⟩
          · skip
            subst h0
            have hps : ps.length = pl := HPLE.out
            have hcp : pl ≤ cp := (KeysAt.of_own HOX.out).2.1
            have hcp1 : (pl : Int) / 2 ≤ (cp : Int) := by omega
            have hcp0 : (0 : Int) ≤ (pl : Int) / 2 := by omega
            go_wp2_with fail
            go_meet
            exact ⟨g, kr, A', 1, c', F j, Ap, (pl / 2), cp, (ps.take (pl / 2)), _, _, rfl, rfl, rfl, rfl, rfl, HKG.out, HRX.out, by omega, (KeysAt.of_own HOX.out).take_ (by omega), by omega, by omega, HBW.out⟩
          · skip
            subst h0
            have hps : ps.length = pl := HPLE.out
            have r11 : wc.rangeAt w.heap.size 0 (bytesOf 32 kx) := blk_range (by rw [HCX.out]; exact HAX.out)
            have R11 := Lib.hid r11
            clear r11
            go_wp2_with (first
              | (refine wpList_load_mid rfl 24 (.tmp 11) rfl w.heap.size 0 rfl (bytesOf 32 kx) _ R11.out Try.underlying24 rfl (key_size kx) ?_)
              | (refine wpList_store_rowTo rfl 24 (.tmp 19) (.tmp 94) rfl rfl g (bytesOf 32 kx).toArray rfl rfl _ _ HKG.out (by rw [keyV_size]; kernel_rfl) (by rw [keyV_size, keyV_size]) (keyV_one _) ?_))
            try simp only [Act.put, List.setIfInBounds_toArray, List.set_cons_zero, List.set_cons_succ]
            go_meet
            have hbs : Below w2.heap.size w2 (wc.setRow g (bytesOf 32 kx).toArray) := below_setRow HBX.out hgz _
            exact ⟨g, kx, A', 1, c', F j, Ap, pl, cp, ps, _, _, rfl, rfl, rfl, rfl, rfl, setRow_same _ _ _ _ _ HKG.out, (HRD.out.below hbs).more hbs.size, by omega, KeysAt.of_own (owns_below HO2.out hbs), by omega, by omega, HB2.out.trans (hbs.mono hz2)⟩
          · skip
            subst h0
            have hps : ps.length = pl := HPLE.out
            obtain ⟨iu, hiu, hu0, hu1, hu2⟩ := info_parts u8_info
            have HO := Lib.hid (lit_own0 wc 5 1)
            have HRa := Lib.hid (HRX.out.alloc (Nat.le_refl _) (.cells #[] 5))
            go_wp2_with (first
              | (at_builtin
                 refine wpList_append_any _ rfl (.tmp 97) (.tmp 98) _ rfl wc.heap.size 5 iu _ 1 1 Try.underlying25 hiu hu0 hu1 hu2 rfl (by omega) _ 0 [] rfl
                   HO.out wc.heap.size A' 1 c' _ rfl HRa.out (bytesOf_one _ _) (by unfold maxLen; omega) (by omega) (by simp) ?_
                 intro v1 w3 ho1 hg1 hat1
                 rw [Nat.zero_add, List.nil_append] at ho1
                 have hb1 : Below wc.heap.size wc w3 := ((Below.refl _ _).alloc (Nat.le_refl _) _).grown hg1 (by rw [World.size_alloc]; omega) (fun g e => by have := Option.some.inj (show some wc.heap.size = some g from e); omega)
                 obtain ⟨A1, c1, rfl⟩ := own_form ho1
                 have HO1 := Lib.hid ho1
                 have HB1 := Lib.hid hb1
                 have hz3 := hb1.size
                 clear ho1 hg1 hat1 hb1)
              | (at_builtin
                 change wpList _ _ _ _ _ _
                 refine app_own rfl (.tmp 99) (.tmp 100) _ rfl wc.heap.size 5 iu _ 1 1 Try.underlying25 hiu hu0 hu1 hu2 rfl (by omega) _ 1 _ rfl HO1.out [.int .u8 1] _ rfl rfl (by simp; rfl) (by omega) (by omega) hz3 ?_
                 intro v2 w4 ho2 hg2
                 have hb2 : Below wc.heap.size wc w4 := grownBy_below HB1.out HO1.out hg2 hz3 (Nat.le_refl _)
                 obtain ⟨A2, c2, rfl⟩ := own_form ho2
                 rw [show bytesOf 1 (F j) ++ [.int .u8 1] = bytesOf (1 + 1) (glue 1 (F j) (fun _ => 1)) from bytesOf_glue 1 1 (F j) (fun _ => 1)] at ho2
                 have HO2b := Lib.hid ho2
                 have HB2b := Lib.hid hb2
                 clear ho2 hg2 hb2))
            go_meet
            exact ⟨g, kr, A2, (1 + 1), c2, (glue 1 (F j) (fun _ => 1)), Ap, pl, cp, ps, _, _, rfl, rfl, rfl, rfl, rfl, HKG.out.below HB2b.out HKG.out.lt, Reads.of_own HO2b.out, by omega, (KeysAt.of_own HOX.out).below HB2b.out, by omega, by omega, HBW.out.trans (HB2b.out.mono hzx)⟩
          · skip
            subst h0
            go_wp2_with fail
            go_meet
            have hps : ps.length = pl := HPLE.out
            have : (((j : Int) + 1) % (m : Int)) < m := Int.emod_lt_of_pos _ (by omega)
            exact ⟨g, kr, A', 1, c', F j, Ap, pl, cp, ps, _, _, rfl, rfl, rfl, rfl, rfl, HKG.out, HRX.out, by omega, KeysAt.of_own HOX.out, by omega, by omega, HBW.out⟩
          · skip
            subst h0
            go_wp2_with fail
            go_meet
            have hps : ps.length = pl := HPLE.out
            exact ⟨g, kr, A', 1, c', F j, Ap, pl, cp, ps, _, _, rfl, rfl, rfl, rfl, rfl, HKG.out, HRX.out, by omega, KeysAt.of_own HOX.out, by omega, by omega, HBW.out⟩
          · skip
            subst h0
            have hkt := Int.tmod_lt_of_pos k (show (0 : Int) < 1000 by omega)
            go_wp2_with fail
            go_meet
            have hps : ps.length = pl := HPLE.out
            exact ⟨g, kr, A', 1, c', F j, Ap, pl, cp, ps, _, _, rfl, rfl, rfl, rfl, rfl, HKG.out, HRX.out, by omega, KeysAt.of_own HOX.out, by omega, by omega, HBW.out⟩
          · skip
            subst h0
            have hps : ps.length = pl := HPLE.out
            by_cases hp0 : pl = 0
            · subst hp0
              have hk0 := KeysAt.of_own HOX.out
              go_wp2_with fail
              go_meet
              exact ⟨g, kr, A', 1, c', F j, Ap, 0, cp, ps, _, _, rfl, rfl, rfl, rfl, rfl, HKG.out, HRX.out, by omega, hk0, by omega, by omega, HBW.out⟩
            · have hp1 : (0 : Int) < (pl : Int) := by omega
              obtain ⟨i0, hi0, hk0, hk1, hk2⟩ := info_parts key_info
              have HO := Lib.hid (lit_own0 wc 24 32)
              have HRa := Lib.hid ((Reads.of_own HOX.out).alloc (Nat.le_refl _) (.cells #[] 24))
              go_wp2_with (first
                | (at_builtin
                   refine wpList_append_any _ rfl (.tmp 65) (.tmp 66) _ rfl wc.heap.size 24 i0 _ 32 32 Try.underlying35 hi0 hk0 hk1 hk2 rfl (by omega) _ 0 [] rfl
                     HO.out wc.heap.size Ap pl cp _ rfl HRa.out (keysOf_oneCell _) (by unfold maxLen; omega) (by omega) (by simp) ?_
                   intro v1 w3 ho1 hg1 hat1
                   rw [Nat.zero_add, List.nil_append] at ho1
                   have hb1 : Below wc.heap.size wc w3 := ((Below.refl _ _).alloc (Nat.le_refl _) _).grown hg1 (by rw [World.size_alloc]; omega) (fun g e => by have := Option.some.inj (show some wc.heap.size = some g from e); omega)
                   obtain ⟨g1, c1, rfl, hg1b⟩ := own_form_pos ho1 (by omega)
                   have HO1 := Lib.hid ho1
                   have HB1 := Lib.hid hb1
                   have hz3 := hb1.size
                   clear ho1 hg1 hat1 hb1))
              obtain ⟨q, hq⟩ : ∃ q, how / 8 % pl = q := ⟨_, rfl⟩
              have hql : q < pl := by rw [← hq]; exact Nat.mod_lt _ (by omega)
              have hqi : ((how : Int) / 8) % (pl : Int) = (q : Int) := by rw [← hq]; first | (push_cast; rfl) | simp
              have e1 : IntKind.u8.wrap ((how : Int) / 8) = (how : Int) / 8 := by rw [IntKind.wrap_u8]; omega
              have e2 : IntKind.i64.wrap ((how : Int) / 8) = (how : Int) / 8 := IntWalk.i64_in _ (by omega)
              have e3 : ((how : Int) / 8).tmod (pl : Int) = (q : Int) := by rw [Int.tmod_eq_emod_of_nonneg (by omega)]; exact hqi
              have hq0 : (0 : Int) ≤ q := by omega
              have hq1 : (q : Int) < pl := by omega
              have r11 : w3.rangeAt w.heap.size 0 (bytesOf 32 kx) := range_below (a := wc) HB1.out HAX.out.lt (blk_range (by rw [HCX.out]; exact HAX.out))
              have hth := own_there (k := q) HO1.out (by omega)
              have hu := Try.underlying24
              have hi6 := key_size kx
              have HTH := Lib.hid hth
              have HQ := Lib.hid hq
              clear hth hq
              refine wp_region_noPanic ?_
              refine wp_region_held_drew (S := fun w' => w'.rangeAt w.heap.size 0 (bytesOf 32 kx)) (by kernel_rfl) r11 (fun hHeld => ?_)
              refine wpAnyH_take (i := 0) (oi := ⟨some 68, _, _, _, _, _⟩) (v := ?_) rfl (by kernel_rfl) (by kernel_rfl) (by kernel_rfl) (fun _ _ _ h => h) (Or.inl ⟨by rfl, ?_⟩) (by assumption) ?_
              rotate_left
              · intro w hSw
                (try dsimp only at hSw)
                go_simp
                all_goals (with_reducible rfl)
              try simp only [Act.put, List.setIfInBounds_toArray, List.set_cons_zero, List.set_cons_succ]
              refine wpAnyH_take (i := 1) (oi := ⟨some 69, _, _, _, _, _⟩) (v := ?_) rfl (by kernel_rfl) (by kernel_rfl) (by kernel_rfl) (fun _ _ _ h => h) (Or.inl ⟨by rfl, ?_⟩) (by assumption) ?_
              rotate_left
              · intro w hSw
                (try dsimp only at hSw)
                go_simp
                all_goals (with_reducible rfl)
              try simp only [Act.put, List.setIfInBounds_toArray, List.set_cons_zero, List.set_cons_succ]
              refine wpAnyH_take (i := 2) (oi := ⟨some 70, _, _, _, _, _⟩) (v := ?_) rfl (by kernel_rfl) (by kernel_rfl) (by kernel_rfl) (fun _ _ _ h => h) (Or.inl ⟨by rfl, ?_⟩) (by assumption) ?_
              rotate_left
              · intro w hSw
                (try dsimp only at hSw)
                go_simp
                all_goals (with_reducible rfl)
              try simp only [Act.put, List.setIfInBounds_toArray, List.set_cons_zero, List.set_cons_succ]
              refine wpAnyH_take (i := 3) (oi := ⟨some 71, _, _, _, _, _⟩) (v := ?_) rfl (by kernel_rfl) (by kernel_rfl) (by kernel_rfl) (fun _ _ _ h => h) (Or.inl ⟨by rfl, ?_⟩) (by assumption) ?_
              rotate_left
              · intro w hSw
                (try dsimp only at hSw)
                go_simp
                all_goals (with_reducible rfl)
              try simp only [Act.put, List.setIfInBounds_toArray, List.set_cons_zero, List.set_cons_succ]
              refine wpAnyH_take (i := 4) (oi := ⟨some 72, _, _, _, _, _⟩) (v := ?_) rfl (by kernel_rfl) (by kernel_rfl) (by kernel_rfl) (fun _ _ _ h => h) (Or.inl ⟨by rfl, ?_⟩) (by assumption) ?_
              rotate_left
              · intro w hSw
                (try dsimp only at hSw)
                go_simp
                all_goals (with_reducible rfl)
              try simp only [Act.put, List.setIfInBounds_toArray, List.set_cons_zero, List.set_cons_succ]
              refine wpAnyH_take (i := 5) (oi := ⟨some 73, _, _, _, _, _⟩) (v := ?_) rfl (by kernel_rfl) (by kernel_rfl) (by kernel_rfl) (fun _ _ _ h => h) (Or.inl ⟨by rfl, ?_⟩) (by assumption) ?_
              rotate_left
              · intro w hSw
                (try dsimp only at hSw)
                go_simp
                all_goals (with_reducible rfl)
              try simp only [Act.put, List.setIfInBounds_toArray, List.set_cons_zero, List.set_cons_succ]
              refine wpAnyH_take (i := 6) (oi := ⟨some 74, _, _, _, _, _⟩) (v := ?_) rfl (by kernel_rfl) (by kernel_rfl) (by kernel_rfl) (fun _ _ _ h => h) (Or.inl ⟨by rfl, ?_⟩) (by assumption) ?_
              rotate_left
              · intro w hSw
                (try dsimp only at hSw)
                go_simp
                all_goals (with_reducible rfl)
              try simp only [Act.put, List.setIfInBounds_toArray, List.set_cons_zero, List.set_cons_succ]
              refine wpAnyH_take (i := 7) (oi := ⟨some 75, _, _, _, _, _⟩) (v := _) rfl (by kernel_rfl) (by kernel_rfl) (by kernel_rfl) (fun _ _ _ h => h) (yieldsIf_load_mid (S := fun w' => w'.rangeAt w.heap.size 0 (bytesOf 32 kx)) (by rfl) _ _ rfl _ _ rfl _ _ (fun w hSw => hSw) hu rfl hi6) (by assumption) ?_
              try simp only [Act.put, List.setIfInBounds_toArray, List.set_cons_zero, List.set_cons_succ]
              refine wpAnyH_take (i := 8) (oi := ⟨some 76, _, _, _, _, _⟩) (v := ?_) rfl (by kernel_rfl) (by kernel_rfl) (by kernel_rfl) (fun _ _ _ h => h) (Or.inl ⟨by rfl, ?_⟩) (by assumption) ?_
              rotate_left
              · intro w hSw
                (try dsimp only at hSw)
                go_simp
                all_goals (with_reducible rfl)
              try simp only [Act.put, List.setIfInBounds_toArray, List.set_cons_zero, List.set_cons_succ]
              refine wpAnyH_ready (rs := [9]) (by kernel_rfl) (by simp) ?_
              refine AllReadyH.cons (o := ⟨none, _, _, _, _, _⟩) rfl (fun K hK => ?_) AllReadyH.nil
              rw [if_pos (by rfl)]
              refine wp_store_mid 24 (.tmp 76) (.tmp 75) rfl g1 (q * 32) (bytesOf 32 kx).toArray rfl rfl (by rw [keyV_size]; exact HTH.out) (by rw [keyV_size]; kernel_rfl) (keyV_one _) ?_
              have hb4 : Below wc.heap.size wc (World.setCells (World.drew w3) g1 (q * 32) (bytesOf 32 kx)) := below_setCells (below_drewN HB1.out 1) hg1b _ _
              have hk4 : KeysAt (World.setCells (World.drew w3) g1 (q * 32) (bytesOf 32 kx)) _ _ _ _ := keysAt_set (w := World.drew w3) (k := kx) (KeysAt.of_own HO1.out) hql HTH.out
              have HB4 := Lib.hid hb4
              have HK4 := Lib.hid hk4
              clear hb4 hk4
              refine hK.out _ _ (range_below (a := wc) HB4.out HAX.out.lt (blk_range (by rw [HCX.out]; exact HAX.out))) (fun hHeld => ?_)
              clear hK K
              try simp only [Act.put, List.setIfInBounds_toArray, List.set_cons_zero, List.set_cons_succ]
              refine wpAnyH_done (by kernel_rfl) ?_ _
              refine NoPanic.normal ?_
              go_wp2_with fail
              go_meet
              have hsz := HB4.out.size
              exact ⟨g, kr, A', 1, c', F j, (some ⟨g1, 0, none⟩), pl, c1, (ps.take q ++ kx :: ps.drop (q + 1)), _, _, rfl, rfl, rfl, rfl, rfl, HKG.out.below HB4.out HKG.out.lt, (HRX.out.below HB4.out).more hsz, by omega, HK4.out, by omega, by omega, HBW.out.trans (HB4.out.mono hzx)⟩
        case rest =>
          obtain ⟨g', rk, Av, lv, cv, fv, Pv, mv, cpv, psv, av, bv, rfl, rfl, rfl, rfl, rfl, hblk, hrdv, hlv, hkv, hmv, hbv, hbel⟩ := hcut
          obtain ⟨R, hR⟩ : ∃ R, verR rk (leafK lv fv) av bv psv = R := ⟨_, rfl⟩
          have hMV : Hid (∀ W, Below wc.heap.size wc W → Calls Try.prog 19 #[keyV rk, .slice Av lv cv, .int .i64 av, .int .i64 bv, .slice Pv mv cpv] W fun e w' => e = .returned (.bool R) ∧ Below W.heap.size W w') := fun W hW => by rw [← hR]; exact mver_z W rk Av lv cv fv av bv Pv mv cpv psv ((hrdv.below hW).more hW.size) hlv hbv (hkv.below hW) hmv
          have hRV : Hid (∀ W, Below wc.heap.size wc W → Calls Try.prog 20 #[keyV rk, .slice Av lv cv, .int .i64 av, .int .i64 bv, .slice Pv mv cpv] W fun e w' => e = .returned (.bool R) ∧ Below W.heap.size W w') := fun W hW => by rw [← hR]; exact rver_z W rk Av lv cv fv av bv Pv mv cpv psv ((hrdv.below hW).more hW.size) hlv hbv (hkv.below hW) hmv
          have r19 : wc.rangeAt g' 0 (bytesOf 32 rk) := blk_range hblk
          have hlg := hblk.lt
          have HBW2 := Lib.hid hbel
          have HBC := Lib.hid (Below.refl wc.heap.size wc)
          have hu := Try.underlying24
          have hi6 := key_size rk
          have hzz := hbel.size
          clear hR hblk hrdv hlv hkv hmv hbv hbel HBX HRX HAX HOX HKG HBW
          go_upto_region 27 with (fail)
          refine wp_region_noPanic ?_
          refine wp_region_held_drew (S := fun w' => w'.rangeAt g' 0 (bytesOf 32 rk)) (by kernel_rfl) r19 (fun hHeld => ?_)
          refine wpAnyH_take (i := 1) (oi := ⟨some 122, _, _, _, _, _⟩) (v := ?_) rfl (by kernel_rfl) (by kernel_rfl) (by kernel_rfl) (fun _ _ _ h => h) (Or.inl ⟨by rfl, ?_⟩) (by assumption) ?_
          rotate_left
          · intro w hSw
            (try dsimp only at hSw)
            go_simp
            all_goals (with_reducible rfl)
          try simp only [Act.put, List.setIfInBounds_toArray, List.set_cons_zero, List.set_cons_succ]
          refine wpAnyH_take (i := 2) (oi := ⟨some 123, _, _, _, _, _⟩) (v := ?_) rfl (by kernel_rfl) (by kernel_rfl) (by kernel_rfl) (fun _ _ _ h => h) (Or.inl ⟨by rfl, ?_⟩) (by assumption) ?_
          rotate_left
          · intro w hSw
            (try dsimp only at hSw)
            go_simp
            all_goals (with_reducible rfl)
          try simp only [Act.put, List.setIfInBounds_toArray, List.set_cons_zero, List.set_cons_succ]
          refine wpAnyH_take (i := 3) (oi := ⟨some 124, _, _, _, _, _⟩) (v := ?_) rfl (by kernel_rfl) (by kernel_rfl) (by kernel_rfl) (fun _ _ _ h => h) (Or.inl ⟨by rfl, ?_⟩) (by assumption) ?_
          rotate_left
          · intro w hSw
            (try dsimp only at hSw)
            go_simp
            all_goals (with_reducible rfl)
          try simp only [Act.put, List.setIfInBounds_toArray, List.set_cons_zero, List.set_cons_succ]
          refine wpAnyH_take (i := 4) (oi := ⟨some 125, _, _, _, _, _⟩) (v := ?_) rfl (by kernel_rfl) (by kernel_rfl) (by kernel_rfl) (fun _ _ _ h => h) (Or.inl ⟨by rfl, ?_⟩) (by assumption) ?_
          rotate_left
          · intro w hSw
            (try dsimp only at hSw)
            go_simp
            all_goals (with_reducible rfl)
          try simp only [Act.put, List.setIfInBounds_toArray, List.set_cons_zero, List.set_cons_succ]
          refine wpAnyH_take (i := 0) (oi := ⟨some 121, _, _, _, _, _⟩) (v := _) rfl (by kernel_rfl) (by kernel_rfl) (by kernel_rfl) (fun _ _ _ h => h) (yieldsIf_load_mid (S := fun w' => w'.rangeAt g' 0 (bytesOf 32 rk)) (by rfl) _ _ rfl _ _ rfl _ _ (fun w hSw => hSw) hu rfl hi6) (by assumption) ?_
          try simp only [Act.put, List.setIfInBounds_toArray, List.set_cons_zero, List.set_cons_succ]
          refine wpAnyH_take (i := 7) (oi := ⟨some 128, _, _, _, _, _⟩) (v := ?_) rfl (by kernel_rfl) (by kernel_rfl) (by kernel_rfl) (fun _ _ _ h => h) (Or.inl ⟨by rfl, ?_⟩) (by assumption) ?_
          rotate_left
          · intro w hSw
            (try dsimp only at hSw)
            go_simp
            all_goals (with_reducible rfl)
          try simp only [Act.put, List.setIfInBounds_toArray, List.set_cons_zero, List.set_cons_succ]
          refine wpAnyH_take (i := 8) (oi := ⟨some 129, _, _, _, _, _⟩) (v := ?_) rfl (by kernel_rfl) (by kernel_rfl) (by kernel_rfl) (fun _ _ _ h => h) (Or.inl ⟨by rfl, ?_⟩) (by assumption) ?_
          rotate_left
          · intro w hSw
            (try dsimp only at hSw)
            go_simp
            all_goals (with_reducible rfl)
          try simp only [Act.put, List.setIfInBounds_toArray, List.set_cons_zero, List.set_cons_succ]
          refine wpAnyH_take (i := 9) (oi := ⟨some 130, _, _, _, _, _⟩) (v := ?_) rfl (by kernel_rfl) (by kernel_rfl) (by kernel_rfl) (fun _ _ _ h => h) (Or.inl ⟨by rfl, ?_⟩) (by assumption) ?_
          rotate_left
          · intro w hSw
            (try dsimp only at hSw)
            go_simp
            all_goals (with_reducible rfl)
          try simp only [Act.put, List.setIfInBounds_toArray, List.set_cons_zero, List.set_cons_succ]
          refine wpAnyH_take (i := 10) (oi := ⟨some 131, _, _, _, _, _⟩) (v := ?_) rfl (by kernel_rfl) (by kernel_rfl) (by kernel_rfl) (fun _ _ _ h => h) (Or.inl ⟨by rfl, ?_⟩) (by assumption) ?_
          rotate_left
          · intro w hSw
            (try dsimp only at hSw)
            go_simp
            all_goals (with_reducible rfl)
          try simp only [Act.put, List.setIfInBounds_toArray, List.set_cons_zero, List.set_cons_succ]
          refine wpAnyH_take (i := 6) (oi := ⟨some 127, _, _, _, _, _⟩) (v := _) rfl (by kernel_rfl) (by kernel_rfl) (by kernel_rfl) (fun _ _ _ h => h) (yieldsIf_load_mid (S := fun w' => w'.rangeAt g' 0 (bytesOf 32 rk)) (by rfl) _ _ rfl _ _ rfl _ _ (fun w hSw => hSw) hu rfl hi6) (by assumption) ?_
          try simp only [Act.put, List.setIfInBounds_toArray, List.set_cons_zero, List.set_cons_succ]
          refine wpAnyH_ready (rs := [5]) (by kernel_rfl) (by simp) ?_
          refine AllReadyH.cons (o := ⟨some 126, _, _, _, _, _⟩) rfl (fun K hK => ?_) AllReadyH.nil
          go_simp
          go_at_call 19
          (with_reducible refine (hMV.out _ ?_).mono ?_)
          · repeat (first | (with_reducible exact HBC.out) | (with_reducible refine belowDrewR ?_) | (with_reducible refine below_dnR ?_ _) | (with_reducible refine below_al ?_ _))
          rintro e w4 ⟨rfl, hb4⟩
          have hBEL : Below wc.heap.size wc w4 := below_step (a := wc) (by repeat (first | (with_reducible exact HBC.out) | (with_reducible refine belowDrewR ?_) | (with_reducible refine below_dnR ?_ _) | (with_reducible refine below_al ?_ _))) hb4
          have HBC := Lib.hid hBEL
          clear hb4 hBEL
          refine hK.out _ _ (range_below (a := wc) HBC.out hlg r19) (fun hHeld => ?_)
          clear hK K
          try simp only [Act.put, List.setIfInBounds_toArray, List.set_cons_zero, List.set_cons_succ]
          refine wpAnyH_ready (rs := [11]) (by kernel_rfl) (by simp) ?_
          refine AllReadyH.cons (o := ⟨some 132, _, _, _, _, _⟩) rfl (fun K hK => ?_) AllReadyH.nil
          go_simp
          go_at_call 20
          (with_reducible refine (hRV.out _ ?_).mono ?_)
          · repeat (first | (with_reducible exact HBC.out) | (with_reducible refine belowDrewR ?_) | (with_reducible refine below_dnR ?_ _) | (with_reducible refine below_al ?_ _))
          rintro e w4 ⟨rfl, hb4⟩
          have hBEL : Below wc.heap.size wc w4 := below_step (a := wc) (by repeat (first | (with_reducible exact HBC.out) | (with_reducible refine belowDrewR ?_) | (with_reducible refine below_dnR ?_ _) | (with_reducible refine below_al ?_ _))) hb4
          have HBC := Lib.hid hBEL
          clear hb4 hBEL
          refine hK.out _ _ (range_below (a := wc) HBC.out hlg r19) (fun hHeld => ?_)
          clear hK K
          try simp only [Act.put, List.setIfInBounds_toArray, List.set_cons_zero, List.set_cons_succ]
          refine wpAnyH_take (i := 12) (oi := ⟨some 133, _, _, _, _, _⟩) (v := ?_) rfl (by kernel_rfl) (by kernel_rfl) (by kernel_rfl) (fun _ _ _ h => h) (Or.inl ⟨by rfl, ?_⟩) (by assumption) ?_
          rotate_left
          · intro w hSw
            (try dsimp only at hSw)
            go_simp
            all_goals (with_reducible rfl)
          try simp only [Act.put, List.setIfInBounds_toArray, List.set_cons_zero, List.set_cons_succ]
          refine wpAnyH_take (i := 13) (oi := ⟨some 134, _, _, _, _, _⟩) (v := ?_) rfl (by kernel_rfl) (by kernel_rfl) (by kernel_rfl) (fun _ _ _ h => h) (Or.inl ⟨by rfl, ?_⟩) (by assumption) ?_
          rotate_left
          · intro w hSw
            (try dsimp only at hSw)
            go_simp
            all_goals (with_reducible rfl)
          try simp only [Act.put, List.setIfInBounds_toArray, List.set_cons_zero, List.set_cons_succ]
          refine wpAnyH_ready (rs := [14]) (by kernel_rfl) (by simp) ?_
          refine AllReadyH.cons (o := ⟨some 135, _, _, _, _, _⟩) rfl (fun K hK => ?_) AllReadyH.nil
          go_simp
          go_at_call 8
          (with_reducible refine (known_any _).mono ?_)
          rintro e w4 ⟨rfl, hb4⟩
          have hBEL : Below wc.heap.size wc w4 := below_step (a := wc) (by repeat (first | (with_reducible exact HBC.out) | (with_reducible refine belowDrewR ?_) | (with_reducible refine below_dnR ?_ _) | (with_reducible refine below_al ?_ _))) hb4
          have HBC := Lib.hid hBEL
          clear hb4 hBEL
          refine hK.out _ _ (range_below (a := wc) HBC.out hlg r19) (fun hHeld => ?_)
          clear hK K
          try simp only [Act.put, List.setIfInBounds_toArray, List.set_cons_zero, List.set_cons_succ]
          refine wpAnyH_take (i := 15) (oi := ⟨some 136, _, _, _, _, _⟩) (v := ?_) rfl (by kernel_rfl) (by kernel_rfl) (by kernel_rfl) (fun _ _ _ h => h) (Or.inl ⟨by rfl, ?_⟩) (by assumption) ?_
          rotate_left
          · intro w hSw
            (try dsimp only at hSw)
            go_simp
            all_goals (with_reducible rfl)
          try simp only [Act.put, List.setIfInBounds_toArray, List.set_cons_zero, List.set_cons_succ]
          refine wpAnyH_take (i := 16) (oi := ⟨some 14, _, _, _, _, _⟩) (v := ?_) rfl (by kernel_rfl) (by kernel_rfl) (by kernel_rfl) (fun _ _ _ h => h) (Or.inl ⟨by rfl, ?_⟩) (by assumption) ?_
          rotate_left
          · intro w hSw
            (try dsimp only at hSw)
            go_simp
            all_goals (with_reducible rfl)
          try simp only [Act.put, List.setIfInBounds_toArray, List.set_cons_zero, List.set_cons_succ]
          refine wpAnyH_done (by kernel_rfl) ?_ _
          refine NoPanic.normal ?_
          go_wp2_with fail
          go_ret
          exact ⟨rfl, HBW2.out.trans (HBC.out.mono hzz)⟩
end Go.Proofs.Ytlijjacnfdnhkaa
