/- ShaStreams: the walk. -/
import Derived.Test.YtpnbaoollmhkgaaShaBk
namespace Go.Proofs.Ytpnbaoollmhkgaa
open Go.RowKit
set_option linter.unusedVariables false
open ShaW Sha

theorem owns_none {w : World} {base : Nat} {e : TypeId} : w.ownsRow base e 1 (.slice none 0 0) 0 (bytesOf 0 (fun _ => 0)) := World.ownsRow_nil _ _ _ _
/-- behind some rows: the Digest at D holds the m bytes φ, and so does the slice v; they lie apart -/
def Str (w wr : World) (D m : Nat) (φ : Nat → UInt8) (v : Value) : Prop :=
  Below w.heap.size w wr ∧ m ≤ 400 ∧ wr.ownsRow w.heap.size 5 1 v m (bytesOf m φ) ∧
    ∃ rv, Blk wr D 44 (digCells (blocks begin0 φ (m / 64)) rv m) ∧ wr.ownsRow w.heap.size 5 1 rv (m % 64) (bytesOf (m % 64) (fun j => φ (64 * (m / 64) + j))) ∧ (∀ g, rv.ownBlock = some g → v.ownBlock ≠ some g)
theorem Str.dig {w wr : World} {D m : Nat} {φ : Nat → UInt8} {v : Value} (h : Str w wr D m φ v) (hD : w.heap.size ≤ D) : DigestAt wr w.heap.size D m φ := by
  obtain ⟨_, _, _, rv, h1, h2, _⟩ := h
  exact ⟨hD, rv, h1, h2⟩
theorem Str.below {w wr w' : World} {D m : Nat} {φ : Nat → UInt8} {v : Value} (h : Str w wr D m φ v) (hb : Below wr.heap.size wr w') : Str w w' D m φ v := by
  obtain ⟨h0, hm, ho, rv, h1, h2, h3⟩ := h
  refine ⟨h0.trans (hb.mono h0.size), hm, ?_, rv, h1.below hb h1.lt, ?_, h3⟩
  · refine ho.kept (below_grownBy hb none) ?_
    rcases hv : v.ownBlock with _ | g
    · exact .inl rfl
    · exact .inr (by simp)
  · refine h2.kept (below_grownBy hb none) ?_
    rcases hv : rv.ownBlock with _ | g
    · exact .inl rfl
    · exact .inr (by simp)

/-- the block of a row of bytes of the call's own -/
theorem own_row_blk {w : World} {base : Nat} {e : TypeId} {v : Value} {n : Nat} {f : Nat → UInt8} (h : w.ownsRow base e 1 v n (bytesOf n f)) (hb : base < w.heap.size) :
    ∃ A g cap cs, v = .slice A n cap ∧ (0 < n → A = some ⟨g, 0, none⟩ ∧ Blk w g e cs) ∧ base ≤ g ∧ g < w.heap.size ∧ n ≤ cap ∧ (∀ j, j < n → cs[j]? = some (.int .u8 ((f j).toNat : Int))) := by
  rcases h.2 with ⟨rfl, rfl⟩ | ⟨g, cap, cur, rfl, hb', hg, hnc, hcm, _⟩
  · exact ⟨none, base, 0, #[], rfl, fun h => absurd h (by omega), Nat.le_refl _, hb, Nat.le_refl _, fun j hj => absurd hj (by omega)⟩
  · refine ⟨some ⟨g, 0, none⟩, g, cap, cur, rfl, fun _ => ⟨rfl, hg⟩, hb', (h.lt g rfl).2, hnc, ?_⟩
    intro j hj
    have := h.cells (g := g) rfl j _ (bytesOf_get f hj)
    rw [add_flat, Nat.zero_add] at this
    exact ((Blk.cell (t := e) hg j).symm).trans this
theorem Str.keep {w wr w2 w3 w4 : World} {D m g9 : Nat} {φ : Nat → UInt8} {v6 : Value} (h : Str w wr D m φ v6) (h2 : Below wr.heap.size wr w2) (h23 : w2.grownBy w3 (some D)) (h34 : w3.grownBy w4 (some g9)) (hg9 : wr.heap.size ≤ g9) :
    w4.ownsRow w.heap.size 5 1 v6 m (bytesOf m φ) := by
  obtain ⟨h0, hm, ho, rv, h1, hr, h3⟩ := h
  have o2 : w2.ownsRow w.heap.size 5 1 v6 m (bytesOf m φ) := by
    refine ho.kept (below_grownBy h2 none) ?_
    rcases hv : v6.ownBlock with _ | g
    · exact .inl rfl
    · exact .inr (by simp)
  have o3 := o2.kept h23 (.inr (own_blk_ne o2 (h1.below h2 h1.lt) (by decide)))
  refine o3.kept h34 ?_
  rcases hv : v6.ownBlock with _ | g
  · exact .inl rfl
  · refine .inr ?_
    intro e
    injection e with e
    have := (ho.lt g hv).2
    omega
theorem Str.step {w wr w2 w3 w4 w5 : World} {D m n g9 : Nat} {φ f : Nat → UInt8} {v6 v6' : Value} (h : Str w wr D m φ v6) (hD : w.heap.size ≤ D) (h2 : Below wr.heap.size wr w2) (h23 : w2.grownBy w3 (some D))
    (hrv : ∃ rv, Blk w3 D 44 (digCells (blocks begin0 (glue m φ f) ((m + n) / 64)) rv (m + n)) ∧ w3.ownsRow w2.heap.size 5 1 rv ((m + n) % 64) (bytesOf ((m + n) % 64) (fun j => glue m φ f (64 * ((m + n) / 64) + j))))
    (h34 : w3.grownBy w4 (some g9)) (hg9 : wr.heap.size ≤ g9) (hg9' : g9 < w2.heap.size) (hown : w5.ownsRow w.heap.size 5 1 v6' (m + n) (bytesOf (m + n) (glue m φ f))) (h45 : w4.grownBy w5 v6.ownBlock)
    (hat : v6'.ownBlock = v6.ownBlock ∨ v6'.ownBlock = some w4.heap.size) (hmn : m + n ≤ 400) : Str w w5 D (m + n) (glue m φ f) v6' := by
  obtain ⟨h0, hm, ho, rv, h1, hr, h3⟩ := h
  obtain ⟨rv', k1, k2⟩ := hrv
  have hz0 := h0.size
  have hz2 := h2.size
  have hz3 := h23.size
  have hz4 := h34.size
  have hDl := h1.lt
  have hne6 : v6.ownBlock ≠ some D := own_blk_ne ho h1 (by decide)
  have hb4 : Below w.heap.size w w4 := only_below (only_below (h0.trans (h2.mono hz0)) h23 hD) h34 (by omega)
  have hb5 : Below w.heap.size w w5 := hb4.grown h45 (hb4.size) (fun g e => (ho.lt g e).1)
  have k1' : Blk w4 D _ _ := k1.grown h34 (by intro e; injection e with e; omega)
  refine ⟨hb5, hmn, hown, rv', k1'.grown h45 (fun e => hne6 e.symm), ?_, ?_⟩
  · have k4 : w4.ownsRow w2.heap.size 5 1 rv' ((m + n) % 64) (bytesOf ((m + n) % 64) (fun j => glue m φ f (64 * ((m + n) / 64) + j))) := by
      refine k2.kept h34 ?_
      rcases hv : rv'.ownBlock with _ | g
      · exact .inl rfl
      · refine .inr ?_
        intro e
        injection e with e
        have := (k2.lt g hv).1
        omega
    refine owns_base (k4.kept h45 ?_) (by omega)
    rcases hv : rv'.ownBlock with _ | g
    · exact .inl rfl
    · refine .inr ?_
      intro e
      have := (k2.lt g hv).1
      have := (ho.lt g e.symm).2
      omega
  · intro g hg e
    have l1 := (k2.lt g hg).1
    have l2 := (k2.lt g hg).2
    rcases hat with h | h
    · rw [h] at e
      have := (ho.lt g e).2
      omega
    · rw [h] at e
      injection e with e
      omega

set_option maxRecDepth 100000 in
set_option maxHeartbeats 2000000 in
theorem shaStreams_any (w : World) (AL : Option Addr) (nl cl bl ol : Nat) (A : Nat → Option Addr) (L C : Nat → Nat) (F : Nat → Nat → UInt8) (hnc : nl ≤ cl)
    (hA : 0 < nl → AL = some ⟨bl, ol, none⟩) (hrow : ∀ r, r < nl → w.cell? ⟨bl, ol + r, none⟩ = some (.slice (A r) (L r) (C r)) ∧ Reads w w.heap.size 1 (A r) (L r) (bytesOf (L r) (F r)) ∧ L r ≤ 1048576)
    (hnl : nl ≤ 1048576) (x : Nat) (hx : x < 256) :
    Calls Try.prog 4 #[.slice AL nl cl, .int .u8 (x : Int)] w fun e w' => e = .returned (.bool true) ∧ Below w.heap.size w w' := by
  have hl1 : 0 < nl → bl < w.heap.size := fun h => World.block_lt_of_cell? w _ (hrow 0 h).1
  have HROW := Lib.hid hrow
  have HL := Lib.hid hl1
  have HA := Lib.hid hA
  clear hrow hl1 hA
  go_enter Try.func4, Try.ntmps4
  go_wp2_with fail
  refine (new_any w (fun _ => 0)).mono ?_
  rintro e w1 ⟨rfl, hb1, hd1⟩
  have hst : Str w w1 (w.heap.size + 1) 0 (fun _ => 0) (.slice none 0 0) := by
    obtain ⟨_, rv, h1, h2⟩ := hd1
    exact ⟨hb1, by omega, owns_none, rv, h1, h2, fun g _ h => by simp [Value.ownBlock] at h⟩
  have HS := Lib.hid hst
  clear hb1 hd1 hst
  go_wp2_with fail
  go_loopw [6, 16] (fun v i wr => ∃ k : Nat, k ≤ nl ∧ i = .int .i64 (k : Int) ∧ ∃ m φ, Str w wr (w.heap.size + 1) m φ v) (fun _ i _ => nl - (intOf i).toNat)
  case atStart => exact ⟨0, by omega, rfl, 0, _, HS.out⟩
  case round =>
    obtain ⟨k, hk, rfl, m, φ, hs⟩ := hrel
    clear HS
    have hm := hs.2.1
    obtain ⟨A6, g6, c6, rfl, hA6, hc6, hm6, _⟩ := own_bytes hs.2.2.1
    have HS := Lib.hid hs
    clear hs hA6
    have hz := HS.out.1.size
    obtain ⟨kf, hkf⟩ : ∃ kf, sha m φ = kf := ⟨_, rfl⟩
    have HKF := Lib.hid hkf
    clear hkf
    have heqF : ∀ W, (binOp .eql 26 (keyV kf) (keyV kf)).run Try.prog W = .ok (.bool true) W := fun W => by
      rw [run_keyEq, keyEq_refl]
    by_cases hlt : k < nl
    · obtain ⟨hr0, hr1, hr2⟩ := HROW.out k hlt
      obtain rfl := HA.out (by omega)
      have hb := HS.out.1
      have y0 : wr.cell? ⟨bl, ol + k, none⟩ = some (.slice (A k) (L k) (C k)) := (hb.cell (p := ⟨bl, ol + k, none⟩) (HL.out (by omega))).trans hr0
      obtain ⟨Ak, hAk⟩ : ∃ q, A k = q := ⟨_, rfl⟩
      obtain ⟨n, hn⟩ : ∃ q, L k = q := ⟨_, rfl⟩
      obtain ⟨Ck, hCk⟩ : ∃ q, C k = q := ⟨_, rfl⟩
      obtain ⟨f, hf⟩ : ∃ q, F k = q := ⟨_, rfl⟩
      rw [hAk, hn, hCk] at y0
      rw [hAk, hn, hf] at hr1
      rw [hn] at hr2
      have HRD := Lib.hid hr1
      clear hr0 hr1 hb hAk hn hCk hf
      have hki : (k : Int) < nl := by omega
      by_cases hbig : 400 < m + n
      · skip
        have hbi : (400 : Int) < (m : Int) + n := by omega
        go_wp2_with fail
        refine (dsum_any _ _ _ _ _ (HS.out.dig (by omega)) (by omega)).mono ?_
        rintro e w4 ⟨rfl, hb4⟩
        rw [HKF.out]
        have HS4 := Lib.hid (HS.out.below hb4)
        clear hb4
        go_wp2_with fail
        refine (rsha_any _ _ _ _ _ (Reads.of_own HS4.out.2.2.1) (by omega)).mono ?_
        rintro e w5 ⟨rfl, hb5⟩
        rw [HKF.out]
        have HS5 := Lib.hid (HS4.out.below hb5)
        clear hb5 HS4
        go_wp2_with fail
        refine (dsum_any _ _ _ _ _ (HS5.out.dig (by omega)) (by omega)).mono ?_
        rintro e w6 ⟨rfl, hb6⟩
        rw [HKF.out]
        have HS6 := Lib.hid (HS5.out.below hb6)
        clear hb6 HS5
        go_wp2_with fail
        refine (sum_any _ _ _ _ _ (Reads.of_own HS6.out.2.2.1) (by omega)).mono ?_
        rintro e w7 ⟨rfl, hb7⟩
        rw [HKF.out]
        have HS7 := Lib.hid (HS6.out.below hb7)
        clear hb7 HS6
        go_wp2_with fail
        refine (len_any _ _ _ _ _ (HS7.out.dig (by omega))).mono ?_
        rintro e w8 ⟨rfl, rfl⟩
        go_wp2_with fail
        refine (known_any _).mono ?_
        rintro e w9 ⟨rfl, hb9⟩
        go_wp2_with fail
        go_ret
        exact ⟨rfl, HS7.out.1.trans (hb9.mono HS7.out.1.size)⟩
      · have hbi : (m : Int) + n ≤ 400 := by omega
        by_cases hbk : 40 < k
        · skip
          have hbki : (40 : Int) < (k : Int) := by omega
          go_wp2_with fail
          refine (dsum_any _ _ _ _ _ (HS.out.dig (by omega)) (by omega)).mono ?_
          rintro e w4 ⟨rfl, hb4⟩
          rw [HKF.out]
          have HS4 := Lib.hid (HS.out.below hb4)
          clear hb4
          go_wp2_with fail
          refine (rsha_any _ _ _ _ _ (Reads.of_own HS4.out.2.2.1) (by omega)).mono ?_
          rintro e w5 ⟨rfl, hb5⟩
          rw [HKF.out]
          have HS5 := Lib.hid (HS4.out.below hb5)
          clear hb5 HS4
          go_wp2_with fail
          refine (dsum_any _ _ _ _ _ (HS5.out.dig (by omega)) (by omega)).mono ?_
          rintro e w6 ⟨rfl, hb6⟩
          rw [HKF.out]
          have HS6 := Lib.hid (HS5.out.below hb6)
          clear hb6 HS5
          go_wp2_with fail
          refine (sum_any _ _ _ _ _ (Reads.of_own HS6.out.2.2.1) (by omega)).mono ?_
          rintro e w7 ⟨rfl, hb7⟩
          rw [HKF.out]
          have HS7 := Lib.hid (HS6.out.below hb7)
          clear hb7 HS6
          go_wp2_with fail
          refine (len_any _ _ _ _ _ (HS7.out.dig (by omega))).mono ?_
          rintro e w8 ⟨rfl, rfl⟩
          go_wp2_with fail
          refine (known_any _).mono ?_
          rintro e w9 ⟨rfl, hb9⟩
          go_wp2_with fail
          go_ret
          exact ⟨rfl, HS7.out.1.trans (hb9.mono HS7.out.1.size)⟩
        · skip
          have hbki : (k : Int) ≤ 40 := by omega
          obtain ⟨i0, hi0, hz0, hz1, hz2⟩ := info_parts u8_info
          have hown0 : (wr.alloc (.cells #[] 5)).ownsRow wr.heap.size 5 1 (.slice (some ⟨wr.heap.size, 0, none⟩) 0 0) 0 [] :=
            World.ownsRow_lit (base := wr.heap.size) (e := 5) (size := 1) wr #[] 0 (by simp) (by unfold maxLen; omega) rfl
          have hrd0 := (HRD.out.below HS.out.1).alloc (w := wr) hz (.cells #[] 5)
          have HO0 := Lib.hid hown0
          have HR0 := Lib.hid hrd0
          clear hown0 hrd0
          go_wp2_with (first
            | (at_builtin
               refine wpList_append_any _ rfl (.tmp 31) (.tmp 32) _ rfl wr.heap.size 5 i0 _ 1 1 Try.underlying22 hi0 hz0 hz1 hz2 rfl (by omega) _ 0 [] rfl
                 HO0.out w.heap.size Ak n Ck _ rfl HR0.out (bytesOf_one _ _) (by unfold maxLen; omega) (by omega) (by simp) ?_
               intro v9 w2 hown9 hg9 hat9
               rw [Nat.zero_add, List.nil_append] at hown9
               obtain ⟨A9, g9, c9, cs9, rfl, hA9, hg9b, hg9l, hc9, hcs9⟩ := own_row_blk hown9 (by have := hg9.size; rw [World.size_alloc] at this; omega)
               have HO9 := Lib.hid hown9
               have HG9 := Lib.hid hg9
               have HA9 := Lib.hid hA9
               have HCS9 := Lib.hid hcs9
               clear hown9 hg9 hat9 hA9 hcs9))
          have hb2 : Below wr.heap.size wr w2 := ((Below.refl _ _).alloc (Nat.le_refl _) _).grown HG9.out (by rw [World.size_alloc]; omega) (fun g e => by have := Option.some.inj (show some wr.heap.size = some g from e); omega)
          have HB2 := Lib.hid hb2
          clear hb2
          refine (write_fresh w2 w.heap.size (w.heap.size + 1) m n φ f A9 c9 ((HS.out.below HB2.out).dig (by omega)) (Reads.of_own HO9.out) (by omega) (by have := HB2.out.size; omega)).mono ?_
          rintro e w3 ⟨rfl, hg3, _, hrv3⟩
          have HG3 := Lib.hid hg3
          have HRV3 := Lib.hid hrv3
          have hcd : 0 < n → Blk w3 g9 5 cs9 := fun h0 => by
            have hk := (HA9.out h0).2
            obtain ⟨_, _, _, rv, hbD, _⟩ := HS.out
            exact hk.grown hg3 (by have := hbD.lt; intro e; injection e with e; omega)
          have HCD := Lib.hid hcd
          clear hg3 hrv3 hcd
          go_wp2_with fail
          obtain ⟨wo, rfl⟩ : ∃ wo : World, wo = w3 := ⟨_, rfl⟩
          obtain ⟨wp, rfl⟩ : ∃ wp : World, wp = wr := ⟨_, rfl⟩
          go_loopw [39] (fun i wr => ∃ j : Nat, j ≤ n ∧ i = .int .i64 (j : Int) ∧ wo.grownBy wr (some g9) ∧ Hid (0 < n → ∃ cs, Blk wr g9 5 cs ∧ ∀ j, j < n → ∃ y : Int, cs[j]? = some (.int .u8 y))) (fun i _ => n - (intOf i).toNat)
          case atStart => exact ⟨0, by omega, rfl, World.grownBy.refl _ _, Lib.hid fun h => ⟨cs9, HCD.out h, fun j hj => ⟨_, HCS9.out j hj⟩⟩⟩
          case round =>
            obtain ⟨j, hj, rfl, hg4, hc4⟩ := hrel
            by_cases hjn : j < n
            · skip
              obtain ⟨cs4, hk4, hcs4⟩ := hc4.out (by omega)
              obtain ⟨rfl, _⟩ := HA9.out (by omega)
              obtain ⟨y, hy⟩ := hcs4 j hjn
              have y1 := (hk4.cell j).trans hy
              have y2 := hk4.frozen j
              have HK4 := Lib.hid hk4
              have HCS4 := Lib.hid hcs4
              have HG4 := Lib.hid hg4
              clear hc4 hk4 hcs4 hg4 hy HCS9 HCD
              go_wp2_with fail
              go_roundw
              case rel =>
                refine ⟨j + 1, by omega, by go_num, only_setCell HG4.out (.inl rfl) _, Lib.hid fun _ => ⟨_, HK4.out.set_ j _, fun j' hj' => ?_⟩⟩
                obtain ⟨y', hy'⟩ := HCS4.out j' hj'
                have hjs : j < cs4.size := by
                  obtain ⟨z, hz⟩ := HCS4.out j hjn
                  exact (Array.getElem?_eq_some_iff.1 hz).1
                by_cases hjj : j' = j
                · subst hjj
                  exact ⟨_, by rw [Array.getElem?_setIfInBounds_self_of_lt hjs]⟩
                · exact ⟨y', by rw [Array.getElem?_setIfInBounds_ne (Ne.symm hjj)]; exact hy'⟩
              case measure => simp [intOf]; omega
            · skip
              obtain rfl : j = n := by omega
              have HG4 := Lib.hid hg4
              clear hc4 hjn hg4 HCS9 HCD
              have hk6 := Str.keep HS.out HB2.out HG3.out HG4.out hg9b
              have hb6 : Below w.heap.size w wr := only_below (only_below (HS.out.1.trans (HB2.out.mono hz)) HG3.out (by omega)) HG4.out (by omega)
              have hz6 := hb6.size
              have hrd6 := HRD.out.below hb6
              have HK6 := Lib.hid hk6
              have HRD6 := Lib.hid hrd6
              clear hk6 hb6 hrd6
              go_wp2_with (first
                | (at_builtin
                   refine wpList_append_any _ rfl (.tmp 49) (.tmp 50) _ rfl w.heap.size 5 i0 _ 1 1 Try.underlying22 hi0 hz0 hz1 hz2 rfl (by omega) _ m _ rfl
                     HK6.out w.heap.size Ak j Ck _ rfl HRD6.out (bytesOf_one _ _) (by unfold maxLen; omega) (by omega) hz6 ?_
                   intro v5 w5 hown5 hg5 hat5
                   rw [bytesOf_glue] at hown5
                   have hs5 := Str.step HS.out (by omega) HB2.out HG3.out HRV3.out HG4.out hg9b hg9l hown5 hg5 hat5 (by omega)
                   obtain ⟨A5, g5, c5, rfl, _⟩ := own_bytes hown5
                   have HS5 := Lib.hid hs5
                   clear hown5 hg5 hat5 hs5 HK6 HRD6 HG4 HRV3 HG3 HB2 HO9 HG9 HA9 HO0 HR0 HRD))
              · obtain ⟨kg, hkg⟩ : ∃ kg, sha (m + j) (glue m φ f) = kg := ⟨_, rfl⟩
                have HKG := Lib.hid hkg
                clear hkg
                have heqG : ∀ W, (binOp .neq 26 (keyV kg) (keyV kg)).run Try.prog W = .ok (.bool false) W := fun W => by
                  rw [run_keyNe, keyEq_refl]; rfl
                refine (dsum_any _ _ _ _ _ (HS5.out.dig (by omega)) (by omega)).mono ?_
                rintro e w6 ⟨rfl, hb6⟩
                rw [HKG.out]
                have HS6 := Lib.hid (HS5.out.below hb6)
                clear hb6 HS5
                go_wp2_with fail
                refine (rsha_any _ _ _ _ _ (Reads.of_own HS6.out.2.2.1) (by omega)).mono ?_
                rintro e w7 ⟨rfl, hb7⟩
                rw [HKG.out]
                have HS7 := Lib.hid (HS6.out.below hb7)
                clear hb7 HS6
                go_wp2_with fail
                refine (len_any _ _ _ _ _ (HS7.out.dig (by omega))).mono ?_
                rintro e w8 ⟨rfl, rfl⟩
                go_wp2_with fail
                go_roundw
                case rel => exact ⟨k + 1, by omega, by go_num, _, _, HS7.out⟩
                case measure => simp [intOf]; omega
              · go_roundw
                case rel => exact ⟨k + 1, by omega, by go_num, _, _, HS5.out⟩
                case measure => simp [intOf]; omega
    · obtain rfl : k = nl := by omega
      go_wp2_with fail
      refine (dsum_any _ _ _ _ _ (HS.out.dig (by omega)) (by omega)).mono ?_
      rintro e w4 ⟨rfl, hb4⟩
      rw [HKF.out]
      have HS4 := Lib.hid (HS.out.below hb4)
      clear hb4
      go_wp2_with fail
      refine (rsha_any _ _ _ _ _ (Reads.of_own HS4.out.2.2.1) (by omega)).mono ?_
      rintro e w5 ⟨rfl, hb5⟩
      rw [HKF.out]
      have HS5 := Lib.hid (HS4.out.below hb5)
      clear hb5 HS4
      go_wp2_with fail
      refine (dsum_any _ _ _ _ _ (HS5.out.dig (by omega)) (by omega)).mono ?_
      rintro e w6 ⟨rfl, hb6⟩
      rw [HKF.out]
      have HS6 := Lib.hid (HS5.out.below hb6)
      clear hb6 HS5
      go_wp2_with fail
      refine (sum_any _ _ _ _ _ (Reads.of_own HS6.out.2.2.1) (by omega)).mono ?_
      rintro e w7 ⟨rfl, hb7⟩
      rw [HKF.out]
      have HS7 := Lib.hid (HS6.out.below hb7)
      clear hb7 HS6
      go_wp2_with fail
      refine (len_any _ _ _ _ _ (HS7.out.dig (by omega))).mono ?_
      rintro e w8 ⟨rfl, rfl⟩
      go_wp2_with fail
      refine (known_any _).mono ?_
      rintro e w9 ⟨rfl, hb9⟩
      go_wp2_with fail
      go_ret
      exact ⟨rfl, HS7.out.1.trans (hb9.mono HS7.out.1.size)⟩
end Go.Proofs.Ytpnbaoollmhkgaa
