/- Comparisons of equal lists; many, written, known. -/
import Derived.Test.YtjiiaepmdlempaaJourF
import Derived.Test.YtjiiaepmdlempaaShaK
import Derived.Test.YtjiiaepmdlempaaPlace
namespace Go.Proofs.Ytjiiaepmdlempaa
open Go.RowKit
set_option linter.unusedVariables false
open ShaW Sha

theorem conv_none (w : World) (c : Nat) : (convert 22 9 (.slice none 0 c)).run Try.prog w = .ok (.string ByteArray.empty) w := by kernel_rfl
theorem conv_reads (w : World) (A : Option Addr) (n c B : Nat) (f : Nat → UInt8) (hr : Reads w B 1 A n (bytesOf n f)) :
    (convert 22 9 (.slice A n c)).run Try.prog w = .ok (.string ⟨((List.range n).map f).toArray⟩) w := by
  rcases A with _ | a
  · rcases Nat.eq_zero_or_pos n with rfl | h
    · exact conv_none w c
    · obtain ⟨ad, _, h1, _⟩ := hr.at_ h
      cases h1
  · have h := run_convert_bytes_back (P := Try.prog) w 22 9 5 a c ((List.range n).map f) Try.underlying22 Try.underlying5 Try.underlying9 (fun j hj => by
      simp only [List.length_map, List.length_range] at hj
      obtain ⟨ad, u, h1, _, h2, h3⟩ := hr.at_ hj
      injection h1 with h1
      subst h1
      rw [h3, ← h2, bytesOf_get f hj]
      simp)
    simpa using h
theorem same_reads (w : World) (A1 A2 : Option Addr) (n c1 c2 B1 B2 : Nat) (f g : Nat → UInt8) (h1 : Reads w B1 1 A1 n (bytesOf n f)) (h2 : Reads w B2 1 A2 n (bytesOf n g)) (hfg : ∀ j, j < n → f j = g j) :
    Calls Try.prog 12 #[.slice A1 n c1, .slice A2 n c2] w fun e w' => e = .returned (.bool true) ∧ w = w' := by
  have h1 := conv_reads w A1 n c1 B1 f h1
  have h2 := conv_reads w A2 n c2 B2 g h2
  rw [show (List.range n).map g = (List.range n).map f from List.map_congr_left (fun j hj => (hfg j (List.mem_range.mp hj)).symm)] at h2
  generalize (ByteArray.mk ((List.range n).map f).toArray) = S at h1 h2
  clear hfg
  go_enter Try.func12, Try.ntmps12
  go_wp2_with fail
  go_ret
  exact ⟨by first | rfl | simp, rfl⟩

/-- a list of byte slices, to be read -/
def RowsB (w : World) (v : Value) (n : Nat) (L : Nat → Nat) (F : Nat → Nat → UInt8) : Prop :=
  ∃ A c b o, v = .slice A n c ∧ (0 < n → A = some ⟨b, o, none⟩) ∧ ∀ r, r < n → ∃ A' c', w.cell? ⟨b, o + r, none⟩ = some (.slice A' (L r) c') ∧ Reads w w.heap.size 1 A' (L r) (bytesOf (L r) (F r))
theorem ListB.rows {w : World} {base n : Nat} {v : Value} {L : Nat → Nat} {F : Nat → Nat → UInt8} (h : ListB w base v n L F) : RowsB w v n L F := by
  obtain ⟨xs, h1, h2⟩ := h
  rcases h1.2 with ⟨rfl, rfl⟩ | ⟨g, cap, cur, rfl, hb, hg, hnc, hcm, _⟩
  · exact ⟨none, 0, 0, 0, rfl, fun h => absurd h (by omega), fun r hr => absurd hr (by omega)⟩
  · refine ⟨_, _, g, 0, rfl, fun _ => rfl, fun r hr => ?_⟩
    obtain ⟨u, e, hu⟩ := h2 r hr
    obtain ⟨A', c', rfl⟩ := own_form hu
    refine ⟨A', c', ?_, Reads.of_own hu⟩
    have := h1.cells (g := g) rfl r _ e
    rwa [add_flat] at this
theorem RowsB.below {w w' : World} {n : Nat} {v : Value} {L : Nat → Nat} {F : Nat → Nat → UInt8} (h : RowsB w v n L F) (hb : Below w.heap.size w w') : RowsB w' v n L F := by
  obtain ⟨A, c, b, o, rfl, hA, hr⟩ := h
  refine ⟨A, c, b, o, rfl, hA, fun r hr' => ?_⟩
  obtain ⟨A', c', h1, h2⟩ := hr r hr'
  exact ⟨A', c', (hb.cell (p := ⟨b, o + r, none⟩) (World.block_lt_of_cell? w _ h1)).trans h1, (h2.below hb).more hb.size⟩

/-- more than the statements ask about -/
def tooMany (L : Nat → Nat) (n : Nat) : Bool := decide (1000 < catLen L n ∨ 20 < n)

set_option maxRecDepth 100000 in
theorem samelists_any (w : World) (v1 v2 : Value) (n : Nat) (L : Nat → Nat) (F G : Nat → Nat → UInt8) (h1 : RowsB w v1 n L F) (h2 : RowsB w v2 n L G) (hFG : ∀ r, r < n → ∀ j, j < L r → F r j = G r j) (hn : n ≤ 1099511627776) :
    Calls Try.prog 16 #[v1, v2] w fun e w' => e = .returned (.bool true) ∧ Below w.heap.size w w' := by
  obtain ⟨A1, c1, b1, o1, rfl, hA1, hr1⟩ := h1
  obtain ⟨A2, c2, b2, o2, rfl, hA2, hr2⟩ := h2
  have HA1 := Lib.hid hA1
  have HA2 := Lib.hid hA2
  have HR1 := Lib.hid hr1
  have HR2 := Lib.hid hr2
  clear hA1 hA2 hr1 hr2
  go_enter Try.func16, Try.ntmps16
  go_wp2_with fail
  go_loopw [13] (fun i wr => ∃ k : Nat, k ≤ n ∧ i = .int .i64 (k : Int) ∧ Below w.heap.size w wr) (fun i _ => n - (intOf i).toNat)
  case atStart => exact ⟨0, by omega, rfl, Below.refl _ _⟩
  case round =>
    obtain ⟨k, hk, rfl, hb⟩ := hrel
    have HB := Lib.hid hb
    have hz := hb.size
    by_cases hlt : k < n
    · obtain ⟨A3, c3, x0, hrd0⟩ := HR1.out k hlt
      obtain ⟨A4, c4, x1, hrd1⟩ := HR2.out k hlt
      have y0 := (hb.cell (p := ⟨b1, o1 + k, none⟩) (World.block_lt_of_cell? w _ x0)).trans x0
      have y1 := (hb.cell (p := ⟨b2, o2 + k, none⟩) (World.block_lt_of_cell? w _ x1)).trans x1
      obtain rfl := HA1.out (by omega)
      obtain rfl := HA2.out (by omega)
      obtain ⟨l, hl⟩ : ∃ l, L k = l := ⟨_, rfl⟩
      have HF := Lib.hid (hFG k hlt)
      rw [hl] at y0 y1 hrd0 hrd1 HF
      have HRD0 := Lib.hid ((hrd0.below hb).drew)
      have HRD1 := Lib.hid ((hrd1.below hb).drew)
      have hki : (k : Int) < n := by omega
      clear hrd0 hrd1 hl hb x0 x1
      go_wp2_with fail
      go_region_law (go_simp; go_at_call 12; refine (same_reads _ _ _ _ _ _ _ _ _ _ HRD0.out HRD1.out HF.out).mono ?_; rintro e w1 ⟨rfl, rfl⟩)
      all_goals
        go_wp2_with fail
        go_roundw
        case rel => exact ⟨k + 1, by omega, by go_num, belowDrew HB.out⟩
        case measure => simp [intOf]; omega
    · obtain rfl : k = n := by omega
      clear hlt hb
      go_wp2_with fail
      go_ret
      exact ⟨rfl, HB.out⟩

set_option maxRecDepth 100000 in
theorem many_any (w : World) (v : Value) (n : Nat) (L : Nat → Nat) (F : Nat → Nat → UInt8) (h1 : RowsB w v n L F) (hn : n ≤ 1048576) (hT : catLen L n ≤ 1099511627776) :
    Calls Try.prog 7 #[v] w fun e w' => e = .returned (.bool (tooMany L n)) ∧ w = w' := by
  obtain ⟨A1, c1, b1, o1, rfl, hA1, hr1⟩ := h1
  have HA1 := Lib.hid hA1
  have HR1 := Lib.hid hr1
  clear hA1 hr1
  go_enter Try.func7, Try.ntmps7
  go_wp2_with fail
  go_loopw [3, 8] (fun s i wr => ∃ k : Nat, k ≤ n ∧ s = .int .i64 (catLen L k : Int) ∧ i = .int .i64 (k : Int) ∧ w = wr) (fun _ i _ => n - (intOf i).toNat)
  case atStart => exact ⟨0, by omega, rfl, rfl, rfl⟩
  case round =>
    obtain ⟨k, hk, rfl, rfl, rfl⟩ := hrel
    by_cases hlt : k < n
    · obtain ⟨A3, c3, y0, _⟩ := HR1.out k hlt
      obtain rfl := HA1.out (by omega)
      have hm := catLen_mono L (show k + 1 ≤ n by omega)
      simp only [catLen] at hm
      obtain ⟨s, hs⟩ : ∃ s, catLen L k = s := ⟨_, rfl⟩
      obtain ⟨l, hl⟩ : ∃ l, L k = l := ⟨_, rfl⟩
      have HS := Lib.hid hs
      have HL := Lib.hid hl
      rw [hs, hl] at hm
      rw [hl] at y0
      rw [hs]
      clear hs hl
      have hki : (k : Int) < n := by omega
      go_wp2_with fail
      go_roundw
      case rel => exact ⟨k + 1, by omega, by simp only [catLen]; rw [HS.out, HL.out]; go_num, by go_num, trivial⟩
      case measure => simp [intOf]; omega
    · obtain rfl : k = n := by omega
      clear hlt
      obtain ⟨T, hTT⟩ : ∃ T, catLen L k = T := ⟨_, rfl⟩
      have HTT := Lib.hid hTT
      rw [hTT]
      clear hTT
      by_cases hb : 1000 < T
      · have hbi : (1000 : Int) < T := by omega
        go_wp2_with fail
        go_ret
        refine ⟨?_, rfl⟩
        rw [show tooMany L k = true from decide_eq_true (.inl (by rw [HTT.out]; exact hb))]
        rfl
      · have hbi : ¬ (1000 : Int) < T := by omega
        by_cases hc : 20 < k
        · have hci : (20 : Int) < k := by omega
          go_wp2_with fail
          go_ret
          refine ⟨?_, rfl⟩
          rw [show tooMany L k = true from decide_eq_true (.inr hc)]
          rfl
        · have hci : ¬ (20 : Int) < k := by omega
          go_wp2_with fail
          go_ret
          refine ⟨?_, rfl⟩
          rw [show tooMany L k = false from decide_eq_false (by rw [HTT.out]; omega)]
          rfl

/-- the log of some payloads -/
def logRows (L : Nat → Nat) (F : Nat → Nat → UInt8) : Nat → Nat → UInt8
  | 0 => fun _ => 0
  | k + 1 => logNext (logLen L k) (logRows L F k) (L k) (F k)
theorem logRows_eq (L : Nat → Nat) (F : Nat → Nat → UInt8) : ∀ k, logRows L F k = logF L F k
  | 0 => rfl
  | k + 1 => by simp only [logRows, logF, logNext]; rw [logRows_eq L F k]

set_option maxRecDepth 100000 in
theorem written_any (w : World) (v : Value) (n : Nat) (L : Nat → Nat) (F : Nat → Nat → UInt8) (h1 : RowsB w v n L F) (hn : n ≤ 20) (hT : ∀ r, r < n → L r ≤ 1000) :
    Calls Try.prog 9 #[v] w fun e w' => ∃ A' c', e = .returned (.slice A' (logLen L n) c') ∧ Below w.heap.size w w' ∧ w'.ownsRow w.heap.size 5 1 (.slice A' (logLen L n) c') (logLen L n) (bytesOf (logLen L n) (logF L F n)) := by
  have hlen : ∀ k, k ≤ n → logLen L k ≤ k * 1008 := by
    intro k
    induction k with
    | zero => intro _; simp [logLen]
    | succ k ih => intro hk; have := ih (by omega); have := hT k (by omega); simp only [logLen]; omega
  obtain ⟨A1, c1, b1, o1, rfl, hA1, hr1⟩ := h1
  have HA1 := Lib.hid hA1
  have HR1 := Lib.hid hr1
  have HT := Lib.hid hT
  have HLEN := Lib.hid hlen
  clear hA1 hr1 hT hlen
  go_enter Try.func9, Try.ntmps9
  go_wp2_with fail
  go_loopw [3, 8] (fun s i wr => ∃ k : Nat, k ≤ n ∧ i = .int .i64 (k : Int) ∧ Below w.heap.size w wr ∧ wr.ownsRow w.heap.size 5 1 s (logLen L k) (bytesOf (logLen L k) (logF L F k))) (fun _ i _ => n - (intOf i).toNat)
  case atStart => exact ⟨0, by omega, rfl, Below.refl _ _, World.ownsRow_nil _ _ _ _⟩
  case round =>
    obtain ⟨k, hk, rfl, hb, ho⟩ := hrel
    obtain ⟨A2, c2, rfl⟩ := own_form ho
    have HB := Lib.hid hb
    have HO := Lib.hid ho
    have hz := hb.size
    by_cases hlt : k < n
    · obtain ⟨A3, c3, y0, hrd⟩ := HR1.out k hlt
      obtain rfl := HA1.out (by omega)
      have y1 := (hb.cell (p := ⟨b1, o1 + k, none⟩) (World.block_lt_of_cell? w _ y0)).trans y0
      have hrd' := (hrd.below hb).more hz
      have hl1 := HLEN.out k (by omega)
      have hl2 := HT.out k hlt
      obtain ⟨s, hs⟩ : ∃ s, logLen L k = s := ⟨_, rfl⟩
      obtain ⟨l, hl⟩ : ∃ l, L k = l := ⟨_, rfl⟩
      have HS := Lib.hid hs
      have HL := Lib.hid hl
      have HRD := Lib.hid hrd'
      rw [hs] at HO hl1 ⊢
      rw [hl] at y1 hl2 HRD
      clear hs hl hb ho hrd hrd' y0
      have hki : (k : Int) < n := by omega
      go_wp2_with fail
      refine (applog_ok _ _ _ _ _ _ _ (logF L F k) (F k) (Reads.of_own HO.out) HRD.out (by omega) (by omega)).mono ?_
      rintro e w1 ⟨A5, c5, rfl, hb1, ho1⟩
      have HB1 := Lib.hid (HB.out.trans (hb1.mono hz))
      have HO1 := Lib.hid (owns_base ho1 hz)
      clear hb1 ho1
      go_wp2_with fail
      go_roundw
      case rel =>
        refine ⟨k + 1, by omega, by go_num, HB1.out, ?_⟩
        simp only [logLen, logF]
        rw [HS.out, HL.out]
        exact HO1.out
      case measure => simp [intOf]; omega
    · obtain rfl : k = n := by omega
      clear hlt hb ho
      go_wp2_with fail
      go_ret
      exact ⟨_, _, rfl, HB.out, HO.out⟩
end Go.Proofs.Ytjiiaepmdlempaa
