/- JournalTears: the plain law of torn and repaired logs. -/
import Derived.Test.YtjiiaepmdlempaaJourRd
namespace Go.Proofs.Ytjiiaepmdlempaa
open Go.RowKit
set_option linter.unusedVariables false
open ShaW Sha

def logRs (L : Nat → Nat) (c : Nat) : List (Nat × Nat) := (List.range c).map (fun r => (logLen L r + 8, L r))
theorem logRs_get (L : Nat → Nat) {c r : Nat} (h : r < c) : (logRs L c).getD r (0, 0) = (logLen L r + 8, L r) := by
  unfold logRs
  simp [List.getD_eq_getElem?_getD, h]
theorem logRs_len (L : Nat → Nat) (c : Nat) : (logRs L c).length = c := by unfold logRs; simp
theorem tear_read (L : Nat → Nat) (F : Nat → Nat → UInt8) (cnt c k : Nat) (g : Nat → UInt8) (hL : ∀ i, i < cnt → L i ≤ 2097152) (hc : c ≤ cnt) (hck : logLen L c ≤ k) (hk : c < cnt → k < logLen L (c + 1)) (hk2 : k ≤ logLen L cnt)
    (hg : ∀ j, j < k → g j = logF L F cnt j) : readFrom k 0 g = (logRs L c, logLen L c) := by
  have h := read_log L F cnt c k g hL hc hck hk hk2 hg c 0 (by omega)
  rw [show logLen L 0 = 0 from rfl] at h
  rw [h]
  unfold logRs
  simp only [Nat.zero_add]
theorem tear_rows (L : Nat → Nat) (F : Nat → Nat → UInt8) (cnt c k : Nat) (g : Nat → UInt8) (hc : c ≤ cnt) (hck : logLen L c ≤ k) (hg : ∀ j, j < k → g j = logF L F cnt j) {r : Nat} (hr : r < c) :
    rowsL (logRs L c) r = L r ∧ ∀ j, j < L r → rowsF (logRs L c) g r j = F r j := by
  refine ⟨by unfold rowsL; rw [logRs_get L hr], fun j hj => ?_⟩
  have hm := logLen_mono L (show r + 1 ≤ c by omega)
  simp only [logLen] at hm
  unfold rowsF from_
  rw [logRs_get L hr]
  show g (logLen L r + 8 + j) = _
  rw [hg _ (by omega), show logLen L r + 8 + j = logLen L r + (8 + j) by omega, logF_get L F cnt (by omega) (by omega)]
  unfold recF
  rw [if_neg (by omega), if_neg (by omega), show 8 + j - 8 = j by omega]
/-- the rows up to c, and one more -/
def moreL (L : Nat → Nat) (c m : Nat) (r : Nat) : Nat := if r < c then L r else m
def moreF (F : Nat → Nat → UInt8) (c : Nat) (f : Nat → UInt8) (r : Nat) : Nat → UInt8 := if r < c then F r else f
theorem moreL_lt {L : Nat → Nat} {c m r : Nat} (h : r < c) : moreL L c m r = L r := if_pos h
theorem moreL_eq {L : Nat → Nat} {c m : Nat} : moreL L c m c = m := if_neg (by omega)
theorem moreF_lt {F : Nat → Nat → UInt8} {f : Nat → UInt8} {c r : Nat} (h : r < c) : moreF F c f r = F r := if_pos h
theorem moreF_eq {F : Nat → Nat → UInt8} {f : Nat → UInt8} {c : Nat} : moreF F c f c = f := if_neg (by omega)
theorem more_len (L : Nat → Nat) (c m : Nat) : logLen (moreL L c m) (c + 1) = logLen L c + (8 + m) := by
  simp only [logLen]
  rw [moreL_eq, logLen_congr c (fun i hi => moreL_lt hi)]
theorem logF_pre (L : Nat → Nat) (F : Nat → Nat → UInt8) : ∀ d c j, j < logLen L c → logF L F (c + d) j = logF L F c j
  | 0, c, j, _ => rfl
  | d + 1, c, j, h => by
    have hm := logLen_mono L (show c ≤ c + d by omega)
    rw [show c + (d + 1) = (c + d) + 1 by omega]
    simp only [logF]
    unfold glue
    rw [if_pos (by omega)]
    exact logF_pre L F d c j h
theorem logF_congr {L L' : Nat → Nat} {F F' : Nat → Nat → UInt8} : ∀ c, (∀ i, i < c → L i = L' i) → (∀ i, i < c → F i = F' i) → logF L F c = logF L' F' c
  | 0, _, _ => rfl
  | c + 1, h1, h2 => by
    simp only [logF]
    rw [logLen_congr c (fun i hi => h1 i (by omega)), logF_congr c (fun i hi => h1 i (by omega)) (fun i hi => h2 i (by omega)), h1 c (by omega), h2 c (by omega)]
theorem more_log (L : Nat → Nat) (F : Nat → Nat → UInt8) (cnt c m : Nat) (f : Nat → UInt8) (hc : c ≤ cnt) (j : Nat) :
    logNext (logLen L c) (logF L F cnt) m f j = logF (moreL L c m) (moreF F c f) (c + 1) j := by
  simp only [logF, logNext]
  rw [moreL_eq, moreF_eq, logLen_congr (L := moreL L c m) (L' := L) c (fun i hi => moreL_lt hi), logF_congr (L := moreL L c m) (L' := L) (F := moreF F c f) (F' := F) c (fun i hi => moreL_lt hi) (fun i hi => moreF_lt hi)]
  unfold glue
  by_cases h : j < logLen L c
  · rw [if_pos h, if_pos h]
    obtain ⟨d, rfl⟩ : ∃ d, cnt = c + d := ⟨cnt - c, by omega⟩
    exact logF_pre L F d c j h
  · rw [if_neg h, if_neg h]
theorem mend_read (L : Nat → Nat) (F : Nat → Nat → UInt8) (cnt c m : Nat) (f : Nat → UInt8) (hL : ∀ i, i < cnt → L i ≤ 2097152) (hm : m ≤ 2097152) (hc : c ≤ cnt) :
    readFrom (logLen L c + (8 + m)) 0 (logNext (logLen L c) (logF L F cnt) m f) = (logRs (moreL L c m) (c + 1), logLen L c + (8 + m)) := by
  have e := more_len L c m
  have h := tear_read (moreL L c m) (moreF F c f) (c + 1) (c + 1) (logLen L c + (8 + m)) (logNext (logLen L c) (logF L F cnt) m f) (fun i hi => by
    unfold moreL
    split
    · exact hL i (by omega)
    · exact hm) (Nat.le_refl _) (by omega) (fun h => absurd h (by omega)) (by omega) (fun j _ => more_log L F cnt c m f hc j)
  rw [h, e]
theorem mend_rows (L : Nat → Nat) (F : Nat → Nat → UInt8) (cnt c m : Nat) (f : Nat → UInt8) (hc : c ≤ cnt) {r : Nat} (hr : r < c + 1) :
    rowsL (logRs (moreL L c m) (c + 1)) r = moreL L c m r ∧ ∀ j, j < moreL L c m r → rowsF (logRs (moreL L c m) (c + 1)) (logNext (logLen L c) (logF L F cnt) m f) r j = moreF F c f r j :=
  tear_rows (moreL L c m) (moreF F c f) (c + 1) (c + 1) (logLen L c + (8 + m)) _ (Nat.le_refl _) (by rw [more_len]; exact Nat.le_refl _) (fun j _ => more_log L F cnt c m f hc j) hr

/-- v is a list, of the call's own, of slices that were there before -/
def ListR (w wr : World) (base : Nat) (v : Value) (q : Nat) (L : Nat → Nat) (F : Nat → Nat → UInt8) : Prop :=
  ∃ xs, wr.ownsRow base 22 1 v q xs ∧ ∀ r, r < q → ∃ A c', xs[r]? = some (.slice A (L r) c') ∧ Reads w w.heap.size 1 A (L r) (bytesOf (L r) (F r))
theorem ListR.below {w wr wr' : World} {base q : Nat} {v : Value} {L : Nat → Nat} {F : Nat → Nat → UInt8} (h : ListR w wr base v q L F) (hb : Below wr.heap.size wr wr') : ListR w wr' base v q L F := by
  obtain ⟨xs, h1, h2⟩ := h
  exact ⟨xs, owns_below h1 hb, h2⟩
theorem ListR.rows {w wr : World} {base q : Nat} {v : Value} {L : Nat → Nat} {F : Nat → Nat → UInt8} (h : ListR w wr base v q L F) (hb : Below w.heap.size w wr) : RowsB wr v q L F := by
  obtain ⟨xs, h1, h2⟩ := h
  rcases h1.2 with ⟨rfl, rfl⟩ | ⟨g, cap, cur, rfl, _, hg, hnc, hcm, _⟩
  · exact ⟨none, 0, 0, 0, rfl, fun h => absurd h (by omega), fun r hr => absurd hr (by omega)⟩
  · refine ⟨_, _, g, 0, rfl, fun _ => rfl, fun r hr => ?_⟩
    obtain ⟨A', c', e, hu⟩ := h2 r hr
    refine ⟨A', c', ?_, (hu.below hb).more hb.size⟩
    have := h1.cells (g := g) rfl r _ e
    rwa [add_flat] at this
theorem ListR.snoc {w wr wr' : World} {base q m c' : Nat} {A : Option Addr} {v v' : Value} {L : Nat → Nat} {F : Nat → Nat → UInt8} {f : Nat → UInt8} {xs : List Value}
    (h1 : wr.ownsRow base 22 1 v q xs) (h2 : ∀ r, r < q → ∃ A c', xs[r]? = some (.slice A (L r) c') ∧ Reads w w.heap.size 1 A (L r) (bytesOf (L r) (F r)))
    (hu : Reads w w.heap.size 1 A m (bytesOf m f)) (hv : wr'.ownsRow base 22 1 v' (q + 1) (xs ++ [.slice A m c'])) (hL : L q = m) (hF : F q = f) : ListR w wr' base v' (q + 1) L F := by
  have hlen : xs.length = q := by have := h1.1; omega
  refine ⟨_, hv, fun r hr => ?_⟩
  by_cases h : r < q
  · obtain ⟨A', c'', e, hy⟩ := h2 r h
    exact ⟨A', c'', by rw [List.getElem?_append_left (by omega)]; exact e, hy⟩
  · obtain rfl : r = q := by omega
    refine ⟨A, c', by rw [List.getElem?_append_right (by omega), hlen, Nat.sub_self, hL]; rfl, ?_⟩
    rw [hL, hF]
    exact hu
theorem FlatB.cut {w : World} {A : Option Addr} {n c k : Nat} {f : Nat → UInt8} (h : FlatB w A n c f) (hk : k ≤ n) : FlatB w A k c f := by
  obtain ⟨h1, h2, b, o, hA, hc⟩ := h
  exact ⟨by omega, h2, b, o, fun h => hA (by omega), fun j hj => hc j (by omega)⟩
end Go.Proofs.Ytjiiaepmdlempaa
