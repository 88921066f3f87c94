/- The cache's reference: Push and Drop of a list of keys. -/
import Derived.Test.YtegdchlbmjokmaaCacW11
import Derived.Test.YtegdchlbmjokmaaKeySk
namespace Go.Proofs.Ytegdchlbmjokmaa
open Go.RowKit
set_option linter.unusedVariables false
set_option linter.unusedSimpArgs false
open Lnk

/-- v is a list of the keys L; they lie in block gb -/
def KL (w : World) (v : Value) (L : List Ky) (gb : Option Nat) : Prop :=
  ∃ A n c, v = .slice A n c ∧ KeysAt w A n c L ∧ (0 < n → ∃ g o, A = some ⟨g, o, none⟩ ∧ gb = some g) ∧ ∀ g, gb = some g → ∃ cs, Blk w g 30 cs
theorem KL.nil (w : World) : KL w (.slice none 0 0) [] none :=
  ⟨none, 0, 0, rfl, ⟨rfl, Nat.le_refl _, Nat.zero_le _, 0, 0, fun h => absurd h (Nat.lt_irrefl _), fun j u hu => by simp [keysOf] at hu⟩, fun h => absurd h (Nat.lt_irrefl _), fun g h => by cases h⟩
theorem KL.lt {w : World} {v : Value} {L : List Ky} {gb : Option Nat} (h : KL w v L gb) : ∀ g, gb = some g → g < w.heap.size := fun g hg => by
  obtain ⟨_, _, _, _, _, _, h4⟩ := h
  obtain ⟨cs, hc⟩ := h4 g hg
  exact hc.lt
theorem KL.only {S : Nat → Prop} {w w' : World} {v : Value} {L : List Ky} {gb : Option Nat} (h : KL w v L gb) (ho : Only S w w') (hS : ∀ g, gb = some g → ¬ S g) : KL w' v L gb := by
  obtain ⟨A, n, c, h1, ⟨k1, k2, k3, g0, o0, hA, hc⟩, h3, h4⟩ := h
  refine ⟨A, n, c, h1, ⟨k1, k2, k3, g0, o0, hA, fun j u hu => ?_⟩, h3, fun g hg => ?_⟩
  · have hn : 0 < n := by
      have := (List.getElem?_eq_some_iff.1 hu).1
      rw [keysOf_len] at this
      omega
    obtain ⟨g, o, e1, e2⟩ := h3 hn
    have e3 := hA hn
    rw [e3] at e1
    injection e1 with e1
    injection e1 with e1 e4
    have hl := World.block_lt_of_cell? w _ (hc j u hu)
    exact (ho.cell (p := ⟨g0, o0 + j, none⟩) hl (by rw [e1]; exact hS g e2)).trans (hc j u hu)
  · obtain ⟨cs, hb⟩ := h4 g hg
    exact ⟨cs, hb.only ho (hS g hg)⟩
theorem KL.below {w w' : World} {v : Value} {L : List Ky} {gb : Option Nat} (h : KL w v L gb) (hb : Below w.heap.size w w') : KL w' v L gb :=
  h.only (Only.of_below (fun _ => False) hb) (fun _ _ h => h)
theorem KL.keys {w : World} {v : Value} {L : List Ky} {gb : Option Nat} (h : KL w v L gb) : ∃ A c, v = .slice A L.length c ∧ KeysAt w A L.length c L := by
  obtain ⟨A, n, c, h1, h2, _⟩ := h
  have e : L.length = n := h2.1
  exact ⟨A, c, by rw [e]; exact h1, by rw [e]; exact h2⟩
theorem KL.of_own {w : World} {base : Nat} {v : Value} {L : List Ky} (h : w.ownsRow base 30 32 v L.length (keysOf L)) : KL w v L v.ownBlock := by
  obtain ⟨A, c, rfl⟩ := own_form h
  refine ⟨A, L.length, c, rfl, KeysAt.of_own h, fun hn => ?_, fun g hg => ?_⟩
  · obtain ⟨g, cap, hv, _⟩ := h.form hn
    injection hv with hv
    exact ⟨g, 0, hv, by rw [hv]; rfl⟩
  · rcases h.2 with ⟨h1, _⟩ | ⟨k, cap, cur, h1, _, h3, _⟩
    · rw [h1] at hg; cases hg
    · rw [h1] at hg
      injection hg with hg
      subst hg
      exact ⟨cur, h3⟩
theorem KL.form {w : World} {v : Value} {L : List Ky} {gb : Option Nat} (h : KL w v L gb) (hn : 0 < L.length) : ∃ g o c, v = .slice (some ⟨g, o, none⟩) L.length c ∧ gb = some g ∧ L.length ≤ c ∧ c ≤ 9223372036854775807 ∧ Reads w w.heap.size 32 (some ⟨g, o, none⟩) L.length (keysOf L) := by
  obtain ⟨A, n, c, h1, ⟨k1, k2, k3, g0, o0, hA, hc⟩, h3, h4⟩ := h
  rw [k1] at hn
  obtain ⟨g, o, e1, e2⟩ := h3 hn
  have e3 := hA hn
  rw [e1] at e3
  injection e3 with e3
  injection e3 with e3 e4
  subst e3 e4
  refine ⟨g, o, c, by rw [h1, k1, e1], e2, by omega, k3, by rw [keysOf_len], fun _ => ⟨_, rfl, ?_, fun j u hu => by rw [add_flat]; exact hc j u hu⟩⟩
  obtain ⟨cs, hb⟩ := h4 g e2
  exact hb.lt
theorem idxI_some {L : List Ky} {k : Ky} {i : Nat} (h : idxK L k = some i) : idxI L k = i ∧ i < L.length := by
  unfold idxK at h
  rw [List.findIdx?_eq_some_iff_getElem] at h
  obtain ⟨h1, h2, h3⟩ := h
  refine ⟨idxI_at L k i L[i] (List.getElem?_eq_getElem h1) h2 (fun j p hj hp => ?_), h1⟩
  obtain ⟨hl, e⟩ := List.getElem?_eq_some_iff.1 hp
  have := h3 j hj
  rw [e] at this
  simpa using this
theorem idxI_no {L : List Ky} {k : Ky} (h : hasK L k = false) : idxI L k = -1 := by
  refine idxI_none L k (fun j p hp => ?_)
  rw [← Bool.not_eq_true]
  intro h2
  have : hasK L k = true := List.any_eq_true.2 ⟨p, List.mem_of_getElem? hp, h2⟩
  rw [h] at this
  cases this
theorem reads_key {w : World} {g : Nat} {k : Ky} (h : Blk w g 30 (bytesOf 32 k).toArray) : Reads w w.heap.size 32 (some ⟨g, 0, none⟩) 1 (keysOf [k]) := by
  rw [keysOf_one]
  exact ⟨by rw [bytesOf_length], fun _ => ⟨_, rfl, h.lt, blk_key h⟩⟩
theorem KL.tail {w : World} {base g c : Nat} {M : List Ky} (h : w.ownsRow base 30 32 (.slice (some ⟨g, 0, none⟩) M.length c) M.length (keysOf M)) (hc : c ≠ 1) (hm : 0 < M.length) : KL w (.slice (some ⟨g, 32, none⟩) (M.length - 1) (c - 1)) (M.drop 1) (some g) := by
  have hk := KeysAt.of_own h
  have hl : (M.drop 1).length = M.length - 1 := List.length_drop
  refine ⟨_, _, _, rfl, ⟨hl, by have := hk.2.1; omega, by have := hk.2.2.1; omega, g, 32, fun _ => rfl, fun j u hu => ?_⟩, fun _ => ⟨g, 32, rfl, rfl⟩, fun g' hg => ?_⟩
  · have h2 := h.cells (g := g) rfl (32 + j) u (by rw [← keysOf_drop M 1, List.getElem?_drop] at hu; simpa using hu)
    rwa [add_flat, Nat.zero_add] at h2
  · injection hg with hg
    subst hg
    rcases h.2 with ⟨h1, _⟩ | ⟨k, cap, cur, h1, _, h3, _⟩
    · cases h1
    · injection h1 with h1
      injection h1 with h1
      injection h1 with h1
      subst h1
      exact ⟨cur, h3⟩
theorem KL.empty {w : World} {base g c : Nat} {x : List Ky} {M : List Ky} (h : w.ownsRow base 30 32 (.slice (some ⟨g, 0, none⟩) M.length c) M.length (keysOf M)) (hx : x = []) : KL w (.slice (some ⟨g, 0, none⟩) 0 0) x (some g) := by
  subst hx
  refine ⟨_, 0, 0, rfl, ⟨rfl, Nat.le_refl _, Nat.zero_le _, 0, 0, fun h => absurd h (Nat.lt_irrefl _), fun j u hu => by simp [keysOf] at hu⟩, fun h => absurd h (Nat.lt_irrefl _), fun g' hg => ?_⟩
  injection hg with hg
  subst hg
  rcases h.2 with ⟨h1, _⟩ | ⟨k, cap, cur, h1, _, h3, _⟩
  · cases h1
  · injection h1 with h1
    injection h1 with h1
    injection h1 with h1
    subst h1
    exact ⟨cur, h3⟩
/-- what the reference leaves: a list, a bool -/
def RefKPost (w : World) (L : List Ky) (ok : Bool) (gb : Option Nat) (e : Ending) (w' : World) : Prop :=
  ∃ v gb', e = .returned (.tuple #[v, .bool ok]) ∧ Below w.heap.size w w' ∧ KL w' v L gb' ∧ (gb' = gb ∨ ∀ g, gb' = some g → w.heap.size ≤ g)
theorem keysOf_lackT (L : List Ky) (i : Nat) : keysOf (lackT L i) = keysOf (L.take i) ++ keysOf (L.drop (i + 1)) := by unfold lackT; rw [keysOf_append]
theorem empty_own (w : World) : (w.alloc (.cells #[] 30)).ownsRow w.heap.size 30 32 (.slice (some ⟨w.heap.size, 0, none⟩) 0 0) 0 [] :=
  ⟨rfl, .inr ⟨w.heap.size, 0, #[], rfl, Nat.le_refl _, heap_alloc_new _ _, Nat.le_refl _, Nat.zero_le _, rfl, rfl⟩⟩
theorem reads_take {w : World} {B : Nat} {A : Option Addr} {L : List Ky} (h : Reads w B 32 A L.length (keysOf L)) {i : Nat} (hi : i ≤ L.length) : Reads w B 32 A i (keysOf (L.take i)) := by
  refine ⟨by rw [keysOf_len, List.length_take]; omega, fun hp => ?_⟩
  obtain ⟨ad, h1, h2, h3⟩ := h.2 (by omega)
  refine ⟨ad, h1, h2, fun j u hu => h3 j u ?_⟩
  rw [← List.take_append_drop i L, keysOf_append]
  exact (List.getElem?_append_left (List.getElem?_eq_some_iff.1 hu).1).trans hu
theorem reads_drop {w : World} {B : Nat} {g o : Nat} {L : List Ky} {c : Nat} (h : Reads w B 32 (some ⟨g, o, none⟩) L.length (keysOf L)) {i : Nat} (hi : i ≤ L.length) (hc : L.length ≤ c) (hne : c ≠ i) : Reads w B 32 (some ⟨g, o + i * 32, none⟩) (L.length - i) (keysOf (L.drop i)) := by
  have h0 := h.cut (k := i) (cap := c) hi hc
  rw [if_neg hne, keysOf_drop] at h0
  simpa [add_flat] using h0
set_option maxRecDepth 100000 in
set_option maxHeartbeats 2000000 in
attribute [local go_sem ↓] wp_load_k wp_build_key in
theorem rdrop_no (w : World) (v : Value) (L : List Ky) (gb : Option Nat) (hk : KL w v L gb) (hL : L.length ≤ 1048576) (k : Ky) (hno : hasK L k = false) :
    Calls Try.prog 13 #[v, keyV k] w (RefKPost w L false gb) := by
  obtain ⟨A, c, hv, hka⟩ := hk.keys
  have hKL := hk
  rw [hv] at hk ⊢
  obtain ⟨i0, hi0, hz0, hz1, hz2⟩ := info_parts key_info
  obtain ⟨cx, hcx⟩ : ∃ cx, (bytesOf 32 k).toArray = cx := ⟨_, rfl⟩
  show Calls _ _ #[_, .agg (bytesOf 32 k).toArray] _ _
  rw [hcx]
  have HCX := Lib.hid hcx
  have HKA := Lib.hid hka
  have HKL := Lib.hid hKL
  have HV := Lib.hid hv
  have HI0 := Lib.hid hi0
  have HZ0 := Lib.hid hz0
  obtain ⟨n, hn⟩ : ∃ n, L.length = n := ⟨_, rfl⟩
  have HN := Lib.hid hn
  rw [hn] at hL ⊢
  clear hcx hka hk hKL hi0 hz0 hn hv
  go_enter Try.func13, Try.ntmps13
  go_upto_region 1 with (fail)
  generalize hwa : World.alloc w _ = wa
  have hb0 : Below w.heap.size w wa := by rw [← hwa]; exact (Below.refl _ _).alloc (Nat.le_refl _) _
  have hk3 : Blk wa w.heap.size 30 (bytesOf 32 k).toArray := by rw [← hwa, HCX.out]; exact Blk.new w _ _
  have q1 := keyOk_mk (blk_key hk3)
  have q2 := loadK_eq (blk_key hk3)
  have HIX := Lib.hid (rindex_any wa A L.length c L k (HKA.out.below hb0))
  have HB0 := Lib.hid hb0
  have HK3 := Lib.hid hk3
  have hz0' := hb0.size
  clear hwa hb0 hk3
  go_wp2_with fail
  rw [← HN.out]
  refine HIX.out.mono ?_
  rintro e w1 ⟨rfl, hb1⟩
  rw [HN.out]
  have HB1 := Lib.hid (HB0.out.trans (hb1.mono hz0'))
  have hk4 := HK3.out.below hb1 HK3.out.lt
  have HK4 := Lib.hid hk4
  have hz1' := HB1.out.size
  clear q1 q2 hb1 HIX HK3
  rw [idxI_no hno] at *
  go_wp2_with fail
  go_ret2
  have h := HKL.out.below HB1.out
  rw [HV.out, HN.out] at h
  exact ⟨_, gb, rfl, HB1.out, h, .inl rfl⟩
set_option maxRecDepth 100000 in
set_option maxHeartbeats 2000000 in
attribute [local go_sem ↓] wp_load_k wp_build_key in
theorem rdrop_yes (w : World) (v : Value) (L : List Ky) (gb : Option Nat) (hk : KL w v L gb) (hL : L.length ≤ 1048576) (k : Ky) (i : Nat) (hi : idxK L k = some i) :
    Calls Try.prog 13 #[v, keyV k] w (RefKPost w (lackT L i) true gb) := by
  obtain ⟨A, c, hv, hka⟩ := hk.keys
  have hKL := hk
  rw [hv] at hk ⊢
  obtain ⟨i0, hi0, hz0, hz1, hz2⟩ := info_parts key_info
  obtain ⟨cx, hcx⟩ : ∃ cx, (bytesOf 32 k).toArray = cx := ⟨_, rfl⟩
  show Calls _ _ #[_, .agg (bytesOf 32 k).toArray] _ _
  rw [hcx]
  have HCX := Lib.hid hcx
  have HKA := Lib.hid hka
  have HKL := Lib.hid hKL
  have HV := Lib.hid hv
  have HI0 := Lib.hid hi0
  have HZ0 := Lib.hid hz0
  obtain ⟨n, hn⟩ : ∃ n, L.length = n := ⟨_, rfl⟩
  have HN := Lib.hid hn
  rw [hn] at hL ⊢
  clear hcx hka hk hKL hi0 hz0 hn hv
  go_enter Try.func13, Try.ntmps13
  go_upto_region 1 with (fail)
  generalize hwa : World.alloc w _ = wa
  have hb0 : Below w.heap.size w wa := by rw [← hwa]; exact (Below.refl _ _).alloc (Nat.le_refl _) _
  have hk3 : Blk wa w.heap.size 30 (bytesOf 32 k).toArray := by rw [← hwa, HCX.out]; exact Blk.new w _ _
  have q1 := keyOk_mk (blk_key hk3)
  have q2 := loadK_eq (blk_key hk3)
  have HIX := Lib.hid (rindex_any wa A L.length c L k (HKA.out.below hb0))
  have HB0 := Lib.hid hb0
  have HK3 := Lib.hid hk3
  have hz0' := hb0.size
  clear hwa hb0 hk3
  go_wp2_with fail
  rw [← HN.out]
  refine HIX.out.mono ?_
  rintro e w1 ⟨rfl, hb1⟩
  rw [HN.out]
  have HB1 := Lib.hid (HB0.out.trans (hb1.mono hz0'))
  have hk4 := HK3.out.below hb1 HK3.out.lt
  have HK4 := Lib.hid hk4
  have hz1' := HB1.out.size
  clear q1 q2 hb1 HIX HK3
  obtain ⟨hix, hil⟩ := idxI_some hi
  obtain ⟨g, o, c', hf1, hgb, hcc, hc63, hrd⟩ := HKL.out.form (by omega)
  have hAe : A = some ⟨g, o, none⟩ ∧ c = c' := by
    rw [HV.out] at hf1
    injection hf1 with h1 _ h2
    exact ⟨h1, h2⟩
  obtain ⟨rfl, rfl⟩ := hAe
  have hiL : i < n := by have := HN.out; omega
  rw [HN.out] at hcc
  rw [hix] at *
  have HR1 : Hid (∀ W, Below w1.heap.size w1 W → Reads W w.heap.size 32 (some ⟨g, o, none⟩) i (keysOf (L.take i))) := fun W hW => reads_take ((hrd.below (HB1.out.mono (Nat.le_refl _))).below (hW.mono hz1')) (by omega)
  have HR2 : Hid (c ≠ i + 1 → ∀ W, Below w1.heap.size w1 W → Reads W w.heap.size 32 (some ⟨g, o + (i + 1) * 32, none⟩) (n - (i + 1)) (keysOf (L.drop (i + 1)))) := fun hne W hW => by
    have := reads_drop (c := c) (i := i + 1) ((hrd.below (HB1.out.mono (Nat.le_refl _))).below (hW.mono hz1')) (by omega) (by rw [HN.out]; exact hcc) hne
    rw [HN.out] at this
    exact this
  have hee : Hid (c = i + 1 → L.drop (i + 1) = []) := fun e => List.drop_of_length_le (by have := HN.out; omega)
  clear hrd hix
  have e0 := empty_own w1
  have HE0 := Lib.hid e0
  have hbl : Below w1.heap.size w1 (w1.alloc (.cells #[] 30)).drew := belowDrewR ((Below.refl _ _).alloc (Nat.le_refl _) _)
  have HBL := Lib.hid hbl
  clear e0 hbl
  by_cases hne : c ≠ i + 1
  · have HNE := Lib.hid hne
    have t1 : (i : Int) ≤ c := by omega
    have t2 : (i : Int) + 1 ≤ n := by omega
    have t3 : (n : Int) ≤ c := by omega
    have g1 : IntKind.i64.wrap ((i : Int) + 1) = (i : Int) + 1 := IntWalk.i64_in _ (by omega)
    have p0 : (0 : Int) ≤ (i : Int) + 1 := by omega
    have p1 : ((i : Int) + 1).toNat = i + 1 := by omega
    have t0 : (0 : Int) ≤ (i : Int) := by omega
    clear hne
    go_upto_region 4 with (fail)
    have hne := HNE.out
    refine wp_region_noPanic ?_
    refine wp_region_held_drew (S := fun _ => True) (by kernel_rfl) trivial (fun hHeld => ?_)
    refine wpAnyH_take (i := 1) (oi := ⟨some 14, _, _, _, _, _⟩) (v := ?_) rfl (by kernel_rfl) (by kernel_rfl) (by kernel_rfl) (fun _ _ _ h => h) (Or.inl ⟨by kernel_rfl, ?_⟩) hHeld ?_
    rotate_left
    · intro w hSw
      (try dsimp only at hSw)
      go_simp
      all_goals (with_reducible rfl)
    conv => arg 8; simp only [Act.put, List.setIfInBounds_toArray, List.set_cons_zero, List.set_cons_succ]
    refine wpAnyH_take (i := 2) (oi := ⟨some 15, _, _, _, _, _⟩) (v := ?_) rfl (by kernel_rfl) (by kernel_rfl) (by kernel_rfl) (fun _ _ _ h => h) (Or.inl ⟨by kernel_rfl, ?_⟩) hHeld ?_
    rotate_left
    · intro w hSw
      (try dsimp only at hSw)
      go_simp
      all_goals (with_reducible rfl)
    conv => arg 8; simp only [Act.put, List.setIfInBounds_toArray, List.set_cons_zero, List.set_cons_succ]
    refine wpAnyH_take (i := 3) (oi := ⟨some 16, _, _, _, _, _⟩) (v := ?_) rfl (by kernel_rfl) (by kernel_rfl) (by kernel_rfl) (fun _ _ _ h => h) (Or.inl ⟨by kernel_rfl, ?_⟩) hHeld ?_
    rotate_left
    · intro w hSw
      (try dsimp only at hSw)
      go_simp
      all_goals (with_reducible rfl)
    conv => arg 8; simp only [Act.put, List.setIfInBounds_toArray, List.set_cons_zero, List.set_cons_succ]
    refine wpAnyH_take (i := 5) (oi := ⟨some 18, _, _, _, _, _⟩) (v := ?_) rfl (by kernel_rfl) (by kernel_rfl) (by kernel_rfl) (fun _ _ _ h => h) (Or.inl ⟨by kernel_rfl, ?_⟩) hHeld ?_
    rotate_left
    · intro w hSw
      (try dsimp only at hSw)
      go_simp
      all_goals (with_reducible rfl)
    conv => arg 8; simp only [Act.put, List.setIfInBounds_toArray, List.set_cons_zero, List.set_cons_succ]
    refine wpAnyH_take (i := 6) (oi := ⟨some 19, _, _, _, _, _⟩) (v := ?_) rfl (by kernel_rfl) (by kernel_rfl) (by kernel_rfl) (fun _ _ _ h => h) (Or.inl ⟨by kernel_rfl, ?_⟩) hHeld ?_
    rotate_left
    · intro w hSw
      (try dsimp only at hSw)
      go_simp
      all_goals (with_reducible rfl)
    conv => arg 8; simp only [Act.put, List.setIfInBounds_toArray, List.set_cons_zero, List.set_cons_succ]
    refine wpAnyH_take (i := 7) (oi := ⟨some 20, _, _, _, _, _⟩) (v := ?_) rfl (by kernel_rfl) (by kernel_rfl) (by kernel_rfl) (fun _ _ _ h => h) (Or.inl ⟨by kernel_rfl, ?_⟩) hHeld ?_
    rotate_left
    · intro w hSw
      (try dsimp only at hSw)
      go_simp
      all_goals (with_reducible rfl)
    conv => arg 8; simp only [Act.put, List.setIfInBounds_toArray, List.set_cons_zero, List.set_cons_succ]
    refine wpAnyH_take (i := 8) (oi := ⟨some 21, _, _, _, _, _⟩) (v := ?_) rfl (by kernel_rfl) (by kernel_rfl) (by kernel_rfl) (fun _ _ _ h => h) (Or.inl ⟨by kernel_rfl, ?_⟩) hHeld ?_
    rotate_left
    · intro w hSw
      (try dsimp only at hSw)
      go_simp
      all_goals (with_reducible rfl)
    conv => arg 8; simp only [Act.put, List.setIfInBounds_toArray, List.set_cons_zero, List.set_cons_succ]
    refine wpAnyH_ready (rs := [0]) (by kernel_rfl) (by simp) ?_
    refine AllReadyH.cons (o := ⟨some 13, _, _, _, _, _⟩) rfl (fun K hK => ?_) AllReadyH.nil
    go_simp
    refine hK.out _ _ trivial (fun hHeld => ?_)
    clear hK K
    conv => arg 8; simp only [Act.put, List.setIfInBounds_toArray, List.set_cons_zero, List.set_cons_succ]
    refine wpAnyH_ready (rs := [4]) (by kernel_rfl) (by simp) ?_
    refine AllReadyH.cons (o := ⟨some 17, _, _, _, _, _⟩) rfl (fun K hK => ?_) AllReadyH.nil
    refine step_append_any _ (by rfl) (.tmp 13) (.tmp 16) _ (by rfl) w1.heap.size 30 i0 _ 32 32 Try.underlying28 HI0.out HZ0.out hz1 hz2 rfl (by omega) (.slice (some ⟨w1.heap.size, 0, none⟩) 0 0) (0) ([]) (by rfl) HE0.out.drew _ (some ⟨g, o, none⟩) (i) _ (keysOf (L.take i)) (by rfl) (HR1.out _ HBL.out) (keysOf_oneCell _) (by unfold maxLen; omega) (by omega) (HBL.out).size ?_
    intro v2 w2 ho_w2 hg_w2 hat_w2
    rw [Nat.zero_add, List.nil_append] at ho_w2
    obtain ⟨A2, c2, rfl⟩ := own_form ho_w2
    have hb_w2 : Below w1.heap.size w1 w2 := (HBL.out).grown hg_w2 (HBL.out).size (fun g e => ((HE0.out.drew).lt g e).1)
    have HB_w2 := Lib.hid hb_w2
    have HO_w2 := Lib.hid ho_w2
    clear ho_w2 hg_w2 hat_w2 hb_w2
    refine hK.out _ _ trivial (fun hHeld => ?_)
    clear hK K
    conv => arg 8; simp only [Act.put, List.setIfInBounds_toArray, List.set_cons_zero, List.set_cons_succ]
    refine wpAnyH_ready (rs := [9]) (by kernel_rfl) (by simp) ?_
    refine AllReadyH.cons (o := ⟨some 22, _, _, _, _, _⟩) rfl (fun K hK => ?_) AllReadyH.nil
    refine step_append_any _ (by rfl) (.tmp 17) (.tmp 21) _ (by rfl) w1.heap.size 30 i0 _ 32 32 Try.underlying28 HI0.out HZ0.out hz1 hz2 rfl (by omega) (.slice A2 i c2) (i) (keysOf (L.take i)) (by rfl) HO_w2.out _ (some ⟨g, o + (i + 1) * 32, none⟩) (n - (i + 1)) _ (keysOf (L.drop (i + 1))) (by rfl) (HR2.out hne _ HB_w2.out) (keysOf_oneCell _) (by unfold maxLen; omega) (by omega) (HB_w2.out).size ?_
    intro v3 w3 ho_w3 hg_w3 hat_w3
    obtain ⟨A3, c3, rfl⟩ := own_form ho_w3
    have hb_w3 : Below w1.heap.size w1 w3 := (HB_w2.out).grown hg_w3 (HB_w2.out).size (fun g e => ((HO_w2.out).lt g e).1)
    have HB_w3 := Lib.hid hb_w3
    have HO_w3 := Lib.hid ho_w3
    clear ho_w3 hg_w3 hat_w3 hb_w3
    refine hK.out _ _ trivial (fun hHeld => ?_)
    clear hK K
    conv => arg 8; simp only [Act.put, List.setIfInBounds_toArray, List.set_cons_zero, List.set_cons_succ]
    refine wpAnyH_take (i := 10) (oi := ⟨some 4, _, _, _, _, _⟩) (v := ?_) rfl (by kernel_rfl) (by kernel_rfl) (by kernel_rfl) (fun _ _ _ h => h) (Or.inl ⟨by kernel_rfl, ?_⟩) hHeld ?_
    rotate_left
    · intro w hSw
      (try dsimp only at hSw)
      go_simp
      all_goals (with_reducible rfl)
    conv => arg 8; simp only [Act.put, List.setIfInBounds_toArray, List.set_cons_zero, List.set_cons_succ]
    refine wpAnyH_take (i := 11) (oi := ⟨some 5, _, _, _, _, _⟩) (v := ?_) rfl (by kernel_rfl) (by kernel_rfl) (by kernel_rfl) (fun _ _ _ h => h) (Or.inl ⟨by kernel_rfl, ?_⟩) hHeld ?_
    rotate_left
    · intro w hSw
      (try dsimp only at hSw)
      go_simp
      all_goals (with_reducible rfl)
    conv => arg 8; simp only [Act.put, List.setIfInBounds_toArray, List.set_cons_zero, List.set_cons_succ]
    refine wpAnyH_done (by kernel_rfl) ?_ _
    refine NoPanic.normal ?_
    go_wp2_with fail
    go_ret2
    have hl := lackT_len (List.getElem?_eq_getElem hil)
    have hn := HN.out
    have ho : w3.ownsRow w1.heap.size 30 32 (.slice A3 (i + (n - (i + 1))) c3) (lackT L i).length (keysOf (lackT L i)) := by
      rw [keysOf_lackT, show (lackT L i).length = i + (n - (i + 1)) by omega]
      exact HO_w3.out
    exact ⟨_, _, rfl, HB1.out.trans (HB_w3.out.mono hz1'), KL.of_own ho, .inr (fun g hg => Nat.le_trans hz1' (ho.lt g hg).1)⟩
  · obtain rfl : c = i + 1 := by omega
    obtain rfl : n = i + 1 := by omega
    have t1 : (i : Int) ≤ (i : Int) + 1 := by omega
    have t2 : (i : Int) < (i : Int) + 1 := by omega
    have g1 : IntKind.i64.wrap ((i : Int) + 1) = (i : Int) + 1 := IntWalk.i64_in _ (by omega)
    have p0 : (0 : Int) ≤ (i : Int) + 1 := by omega
    have p1 : ((i : Int) + 1).toNat = i + 1 := by omega
    have t0 : (0 : Int) ≤ (i : Int) := by omega
    clear hne
    go_upto_region 4 with (fail)
    refine wp_region_noPanic ?_
    refine wp_region_held_drew (S := fun _ => True) (by kernel_rfl) trivial (fun hHeld => ?_)
    refine wpAnyH_take (i := 1) (oi := ⟨some 14, _, _, _, _, _⟩) (v := ?_) rfl (by kernel_rfl) (by kernel_rfl) (by kernel_rfl) (fun _ _ _ h => h) (Or.inl ⟨by kernel_rfl, ?_⟩) hHeld ?_
    rotate_left
    · intro w hSw
      (try dsimp only at hSw)
      go_simp
      all_goals (with_reducible rfl)
    conv => arg 8; simp only [Act.put, List.setIfInBounds_toArray, List.set_cons_zero, List.set_cons_succ]
    refine wpAnyH_take (i := 2) (oi := ⟨some 15, _, _, _, _, _⟩) (v := ?_) rfl (by kernel_rfl) (by kernel_rfl) (by kernel_rfl) (fun _ _ _ h => h) (Or.inl ⟨by kernel_rfl, ?_⟩) hHeld ?_
    rotate_left
    · intro w hSw
      (try dsimp only at hSw)
      go_simp
      all_goals (with_reducible rfl)
    conv => arg 8; simp only [Act.put, List.setIfInBounds_toArray, List.set_cons_zero, List.set_cons_succ]
    refine wpAnyH_take (i := 3) (oi := ⟨some 16, _, _, _, _, _⟩) (v := ?_) rfl (by kernel_rfl) (by kernel_rfl) (by kernel_rfl) (fun _ _ _ h => h) (Or.inl ⟨by kernel_rfl, ?_⟩) hHeld ?_
    rotate_left
    · intro w hSw
      (try dsimp only at hSw)
      go_simp
      all_goals (with_reducible rfl)
    conv => arg 8; simp only [Act.put, List.setIfInBounds_toArray, List.set_cons_zero, List.set_cons_succ]
    refine wpAnyH_take (i := 5) (oi := ⟨some 18, _, _, _, _, _⟩) (v := ?_) rfl (by kernel_rfl) (by kernel_rfl) (by kernel_rfl) (fun _ _ _ h => h) (Or.inl ⟨by kernel_rfl, ?_⟩) hHeld ?_
    rotate_left
    · intro w hSw
      (try dsimp only at hSw)
      go_simp
      all_goals (with_reducible rfl)
    conv => arg 8; simp only [Act.put, List.setIfInBounds_toArray, List.set_cons_zero, List.set_cons_succ]
    refine wpAnyH_take (i := 6) (oi := ⟨some 19, _, _, _, _, _⟩) (v := ?_) rfl (by kernel_rfl) (by kernel_rfl) (by kernel_rfl) (fun _ _ _ h => h) (Or.inl ⟨by kernel_rfl, ?_⟩) hHeld ?_
    rotate_left
    · intro w hSw
      (try dsimp only at hSw)
      go_simp
      all_goals (with_reducible rfl)
    conv => arg 8; simp only [Act.put, List.setIfInBounds_toArray, List.set_cons_zero, List.set_cons_succ]
    refine wpAnyH_take (i := 7) (oi := ⟨some 20, _, _, _, _, _⟩) (v := ?_) rfl (by kernel_rfl) (by kernel_rfl) (by kernel_rfl) (fun _ _ _ h => h) (Or.inl ⟨by kernel_rfl, ?_⟩) hHeld ?_
    rotate_left
    · intro w hSw
      (try dsimp only at hSw)
      go_simp
      all_goals (with_reducible rfl)
    conv => arg 8; simp only [Act.put, List.setIfInBounds_toArray, List.set_cons_zero, List.set_cons_succ]
    refine wpAnyH_take (i := 8) (oi := ⟨some 21, _, _, _, _, _⟩) (v := ?_) rfl (by kernel_rfl) (by kernel_rfl) (by kernel_rfl) (fun _ _ _ h => h) (Or.inl ⟨by kernel_rfl, ?_⟩) hHeld ?_
    rotate_left
    · intro w hSw
      (try dsimp only at hSw)
      go_simp
      all_goals (with_reducible rfl)
    conv => arg 8; simp only [Act.put, List.setIfInBounds_toArray, List.set_cons_zero, List.set_cons_succ]
    refine wpAnyH_ready (rs := [0]) (by kernel_rfl) (by simp) ?_
    refine AllReadyH.cons (o := ⟨some 13, _, _, _, _, _⟩) rfl (fun K hK => ?_) AllReadyH.nil
    go_simp
    refine hK.out _ _ trivial (fun hHeld => ?_)
    clear hK K
    conv => arg 8; simp only [Act.put, List.setIfInBounds_toArray, List.set_cons_zero, List.set_cons_succ]
    refine wpAnyH_ready (rs := [4]) (by kernel_rfl) (by simp) ?_
    refine AllReadyH.cons (o := ⟨some 17, _, _, _, _, _⟩) rfl (fun K hK => ?_) AllReadyH.nil
    refine step_append_any _ (by rfl) (.tmp 13) (.tmp 16) _ (by rfl) w1.heap.size 30 i0 _ 32 32 Try.underlying28 HI0.out HZ0.out hz1 hz2 rfl (by omega) (.slice (some ⟨w1.heap.size, 0, none⟩) 0 0) (0) ([]) (by rfl) HE0.out.drew _ (some ⟨g, o, none⟩) (i) _ (keysOf (L.take i)) (by rfl) (HR1.out _ HBL.out) (keysOf_oneCell _) (by unfold maxLen; omega) (by omega) (HBL.out).size ?_
    intro v2 w2 ho_w2 hg_w2 hat_w2
    rw [Nat.zero_add, List.nil_append] at ho_w2
    obtain ⟨A2, c2, rfl⟩ := own_form ho_w2
    have hb_w2 : Below w1.heap.size w1 w2 := (HBL.out).grown hg_w2 (HBL.out).size (fun g e => ((HE0.out.drew).lt g e).1)
    have HB_w2 := Lib.hid hb_w2
    have HO_w2 := Lib.hid ho_w2
    clear ho_w2 hg_w2 hat_w2 hb_w2
    refine hK.out _ _ trivial (fun hHeld => ?_)
    clear hK K
    conv => arg 8; simp only [Act.put, List.setIfInBounds_toArray, List.set_cons_zero, List.set_cons_succ]
    refine wpAnyH_ready (rs := [9]) (by kernel_rfl) (by simp) ?_
    refine AllReadyH.cons (o := ⟨some 22, _, _, _, _, _⟩) rfl (fun K hK => ?_) AllReadyH.nil
    refine step_append_any _ (by rfl) (.tmp 17) (.tmp 21) _ (by rfl) w1.heap.size 30 i0 _ 32 32 Try.underlying28 HI0.out HZ0.out hz1 hz2 rfl (by omega) (.slice A2 i c2) (i) (keysOf (L.take i)) (by rfl) HO_w2.out _ (some ⟨g, o, none⟩) (0) 0 ([]) (by rfl) (Reads.none_ (B := 0) (A := some ⟨g, o, none⟩)) (by simp) (by unfold maxLen; omega) (by omega) (HB_w2.out).size ?_
    intro v3 w3 ho_w3 hg_w3 hat_w3
    rw [Nat.add_zero, List.append_nil] at ho_w3
    obtain ⟨A3, c3, rfl⟩ := own_form ho_w3
    have hb_w3 : Below w1.heap.size w1 w3 := (HB_w2.out).grown hg_w3 (HB_w2.out).size (fun g e => ((HO_w2.out).lt g e).1)
    have HB_w3 := Lib.hid hb_w3
    have HO_w3 := Lib.hid ho_w3
    clear ho_w3 hg_w3 hat_w3 hb_w3
    refine hK.out _ _ trivial (fun hHeld => ?_)
    clear hK K
    conv => arg 8; simp only [Act.put, List.setIfInBounds_toArray, List.set_cons_zero, List.set_cons_succ]
    refine wpAnyH_take (i := 10) (oi := ⟨some 4, _, _, _, _, _⟩) (v := ?_) rfl (by kernel_rfl) (by kernel_rfl) (by kernel_rfl) (fun _ _ _ h => h) (Or.inl ⟨by kernel_rfl, ?_⟩) hHeld ?_
    rotate_left
    · intro w hSw
      (try dsimp only at hSw)
      go_simp
      all_goals (with_reducible rfl)
    conv => arg 8; simp only [Act.put, List.setIfInBounds_toArray, List.set_cons_zero, List.set_cons_succ]
    refine wpAnyH_take (i := 11) (oi := ⟨some 5, _, _, _, _, _⟩) (v := ?_) rfl (by kernel_rfl) (by kernel_rfl) (by kernel_rfl) (fun _ _ _ h => h) (Or.inl ⟨by kernel_rfl, ?_⟩) hHeld ?_
    rotate_left
    · intro w hSw
      (try dsimp only at hSw)
      go_simp
      all_goals (with_reducible rfl)
    conv => arg 8; simp only [Act.put, List.setIfInBounds_toArray, List.set_cons_zero, List.set_cons_succ]
    refine wpAnyH_done (by kernel_rfl) ?_ _
    refine NoPanic.normal ?_
    go_wp2_with fail
    go_ret2
    have hl := lackT_len (List.getElem?_eq_getElem hil)
    have hn := HN.out
    have ho : w3.ownsRow w1.heap.size 30 32 (.slice A3 (i) c3) (lackT L i).length (keysOf (lackT L i)) := by
      rw [keysOf_lackT, show (lackT L i).length = i by omega]
      rw [hee.out (by first | rfl | trivial)]; simpa [keysOf] using HO_w3.out
    exact ⟨_, _, rfl, HB1.out.trans (HB_w3.out.mono hz1'), KL.of_own ho, .inr (fun g hg => Nat.le_trans hz1' (ho.lt g hg).1)⟩
end Go.Proofs.Ytegdchlbmjokmaa
