/- A journal's records, in plain Lean. -/
import Derived.Test.YtjiiaepmdlempaaApp
import Derived.Test.YtjiiaepmdlempaaShaSpec
namespace Go.Proofs.Ytjiiaepmdlempaa
set_option linter.unusedVariables false
open Sha

def be32 (f : Nat → UInt8) : Nat := (f 0).toNat * 16777216 + (f 1).toNat * 65536 + (f 2).toNat * 256 + (f 3).toNat
/-- bytes from k on -/
def from_ (k : Nat) (f : Nat → UInt8) : Nat → UInt8 := fun j => f (k + j)
theorem from_from (a b : Nat) (f : Nat → UInt8) : from_ a (from_ b f) = from_ (b + a) f := by funext j; unfold from_; congr 1; omega
def sumOk (m : Nat) (f : Nat → UInt8) : Bool := (List.range 4).all fun j => sha m (from_ 8 f) j == f (4 + j)
/-- the payload's length of the record at the beginning -/
def recAt (n : Nat) (f : Nat → UInt8) : Option Nat :=
  if n < 8 then none else if 2097152 < be32 f then none else if n - 8 < be32 f then none else if sumOk (be32 f) f then some (be32 f) else none
theorem recAt_le {n m : Nat} {f : Nat → UInt8} (h : recAt n f = some m) : m + 8 ≤ n ∧ m = be32 f ∧ m ≤ 2097152 ∧ sumOk m f = true := by
  unfold recAt at h
  split at h
  · cases h
  split at h
  · cases h
  split at h
  · cases h
  split at h
  · injection h with h
    subst h
    exact ⟨by omega, rfl, by omega, by assumption⟩
  · cases h
/-- the payloads of the longest prefix of records: offset, length; and the prefix's length, from u on -/
def readFrom (n u : Nat) (f : Nat → UInt8) : List (Nat × Nat) × Nat :=
  match h : recAt (n - u) (from_ u f) with
  | none => ([], u)
  | some m => have := (recAt_le h).1; ((u + 8, m) :: (readFrom n (u + 8 + m) f).1, (readFrom n (u + 8 + m) f).2)
termination_by n - u
theorem readFrom_none {n u : Nat} {f : Nat → UInt8} (h : recAt (n - u) (from_ u f) = none) : readFrom n u f = ([], u) := by
  rw [readFrom]
  split
  · rfl
  · rename_i m h'; rw [h] at h'; cases h'
theorem readFrom_some {n u m : Nat} {f : Nat → UInt8} (h : recAt (n - u) (from_ u f) = some m) : readFrom n u f = ((u + 8, m) :: (readFrom n (u + 8 + m) f).1, (readFrom n (u + 8 + m) f).2) := by
  rw [readFrom]
  split
  · rename_i h'; rw [h] at h'; cases h'
  · rename_i m' h'
    rw [h] at h'
    injection h' with h'
    subst h'
    rfl
theorem readFrom_bound (n : Nat) (f : Nat → UInt8) : ∀ d u, n - u = d → u ≤ n → u ≤ (readFrom n u f).2 ∧ (readFrom n u f).2 ≤ n ∧ (readFrom n u f).1.length ≤ n - u := by
  intro d
  induction d using Nat.strongRecOn with
  | _ d ih =>
    intro u hd hu
    cases h : recAt (n - u) (from_ u f) with
    | none => rw [readFrom_none h]; exact ⟨Nat.le_refl _, hu, by simp⟩
    | some m =>
      have hb := (recAt_le h).1
      have := ih (n - (u + 8 + m)) (by omega) (u + 8 + m) rfl (by omega)
      rw [readFrom_some h]
      simp only [List.length_cons]
      omega

/-- the bytes of a record -/
def lenB (m j : Nat) : UInt8 := UInt8.ofNat (m / 2 ^ (24 - 8 * j))
def recF (m : Nat) (f : Nat → UInt8) : Nat → UInt8 := fun j => if j < 4 then lenB m j else if j < 8 then sha m f (j - 4) else f (j - 8)
theorem be32_rec {m : Nat} {f g : Nat → UInt8} (hm : m ≤ 2097152) (hg : ∀ j, j < 4 → g j = recF m f j) : be32 g = m := by
  unfold be32
  rw [hg 0 (by omega), hg 1 (by omega), hg 2 (by omega), hg 3 (by omega)]
  unfold recF
  rw [if_pos (by omega), if_pos (by omega), if_pos (by omega), if_pos (by omega)]
  unfold lenB
  rw [UInt8.toNat_ofNat', UInt8.toNat_ofNat', UInt8.toNat_ofNat', UInt8.toNat_ofNat']
  rw [show (2 : Nat) ^ (24 - 8 * 0) = 16777216 from rfl, show (2 : Nat) ^ (24 - 8 * 1) = 65536 from rfl, show (2 : Nat) ^ (24 - 8 * 2) = 256 from rfl, show (2 : Nat) ^ (24 - 8 * 3) = 1 from rfl]
  omega
theorem recAt_hit {n m : Nat} {f g : Nat → UInt8} (hm : m ≤ 2097152) (hn : 8 + m ≤ n) (hg : ∀ j, j < 8 + m → g j = recF m f j) : recAt n g = some m := by
  have hb : be32 g = m := be32_rec hm (fun j hj => hg j (by omega))
  unfold recAt
  rw [hb, if_neg (by omega), if_neg (by omega), if_neg (by omega), if_pos ?_]
  unfold sumOk
  rw [List.all_eq_true]
  intro j hj
  have hj : j < 4 := List.mem_range.1 hj
  rw [hg (4 + j) (by omega)]
  unfold recF
  rw [if_neg (by omega), if_pos (by omega), show 4 + j - 4 = j by omega]
  rw [sha_congr (n := m) (f := from_ 8 g) (f' := f) (fun i hi => ?_)]
  · simp
  · unfold from_
    rw [hg (8 + i) (by omega)]
    unfold recF
    rw [if_neg (by omega), if_neg (by omega), show 8 + i - 8 = i by omega]
theorem recAt_torn {n m : Nat} {f g : Nat → UInt8} (hm : m ≤ 2097152) (hn : n < 8 + m) (hg : ∀ j, j < n → g j = recF m f j) : recAt n g = none := by
  unfold recAt
  by_cases h8 : n < 8
  · rw [if_pos h8]
  · have hb : be32 g = m := be32_rec hm (fun j hj => hg j (by omega))
    rw [if_neg h8, hb, if_neg (by omega), if_pos (by omega)]
def logLen (L : Nat → Nat) : Nat → Nat
  | 0 => 0
  | k + 1 => logLen L k + (8 + L k)
def logF (L : Nat → Nat) (F : Nat → Nat → UInt8) : Nat → Nat → UInt8
  | 0 => fun _ => 0
  | k + 1 => glue (logLen L k) (logF L F k) (recF (L k) (F k))
theorem logLen_mono (L : Nat → Nat) {i k : Nat} (h : i ≤ k) : logLen L i ≤ logLen L k := by
  induction k with
  | zero => obtain rfl : i = 0 := by omega
            exact Nat.le_refl _
  | succ k ih =>
    by_cases h' : i = k + 1
    · rw [h']; exact Nat.le_refl _
    · have := ih (by omega)
      simp only [logLen]; omega
theorem logF_get (L : Nat → Nat) (F : Nat → Nat → UInt8) {i j : Nat} : ∀ cnt, i < cnt → j < 8 + L i → logF L F cnt (logLen L i + j) = recF (L i) (F i) j
  | 0, h, _ => absurd h (by omega)
  | c + 1, h, hj => by
    simp only [logF]
    unfold glue
    by_cases hi : i = c
    · subst hi
      rw [if_neg (by omega), show logLen L i + j - logLen L i = j by omega]
    · have hm := logLen_mono L (show i + 1 ≤ c by omega)
      simp only [logLen] at hm
      rw [if_pos (by omega)]
      exact logF_get L F c (by omega) hj
theorem logLen_congr {L L' : Nat → Nat} : ∀ c, (∀ i, i < c → L i = L' i) → logLen L c = logLen L' c
  | 0, _ => rfl
  | c + 1, h => by simp only [logLen]; rw [logLen_congr c (fun i hi => h i (by omega)), h c (by omega)]
/-- the complete records of a log that is cut off at k -/
theorem read_log (L : Nat → Nat) (F : Nat → Nat → UInt8) (cnt c k : Nat) (g : Nat → UInt8) (hL : ∀ i, i < cnt → L i ≤ 2097152) (hc : c ≤ cnt) (hck : logLen L c ≤ k) (hk : c < cnt → k < logLen L (c + 1)) (hk2 : k ≤ logLen L cnt)
    (hg : ∀ j, j < k → g j = logF L F cnt j) :
    ∀ d i, i + d = c → readFrom k (logLen L i) g = ((List.range d).map (fun r => (logLen L (i + r) + 8, L (i + r))), logLen L c)
  | 0, i, hi => by
    obtain rfl : i = c := by omega
    have hnone : recAt (k - logLen L i) (from_ (logLen L i) g) = none := by
      by_cases hlt : i < cnt
      · refine recAt_torn (m := L i) (f := F i) (hL i hlt) (by have := hk hlt; simp only [logLen] at this; omega) (fun j hj => ?_)
        unfold from_
        have := hk hlt
        simp only [logLen] at this
        rw [hg _ (by omega)]
        exact logF_get L F cnt hlt (by omega)
      · obtain rfl : i = cnt := by omega
        unfold recAt
        rw [if_pos (by omega)]
    rw [readFrom_none hnone]
    rfl
  | d + 1, i, hi => by
    have hm := logLen_mono L (show i + 1 ≤ c by omega)
    simp only [logLen] at hm
    have hsome : recAt (k - logLen L i) (from_ (logLen L i) g) = some (L i) := by
      refine recAt_hit (f := F i) (hL i (by omega)) (by omega) (fun j hj => ?_)
      unfold from_
      rw [hg _ (by omega)]
      exact logF_get L F cnt (by omega) hj
    have ih := read_log L F cnt c k g hL hc hck hk hk2 hg d (i + 1) (by omega)
    simp only [logLen] at ih
    rw [readFrom_some hsome, show logLen L i + 8 + L i = logLen L i + (8 + L i) by omega, ih]
    refine Prod.ext ?_ rfl
    show _ :: _ = _
    rw [List.range_succ_eq_map, List.map_cons, List.map_map]
    congr 1
    refine List.map_congr_left (fun r _ => ?_)
    show _ = ((fun r => _) ∘ Nat.succ) r
    simp only [Function.comp, Nat.succ_eq_add_one]
    rw [show i + 1 + r = i + (r + 1) by omega]
end Go.Proofs.Ytjiiaepmdlempaa
