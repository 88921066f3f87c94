/- The order of keys and of their texts; no program in sight. -/
import Derived.Test.YtbhklhpeppaadaaKeySpec
namespace Go.Proofs.Ytbhklhpeppaadaa
open Go.Lib
set_option linter.unusedVariables false
set_option linter.unusedSimpArgs false

theorem cb_self : ∀ (l : List UInt8), compareBytes l l = 0
  | [] => rfl
  | a :: l => by unfold compareBytes; rw [if_neg (UInt8.lt_irrefl a), if_neg (UInt8.lt_irrefl a)]; exact cb_self l
theorem cb_anti : ∀ (l m : List UInt8), compareBytes m l = -compareBytes l m
  | [], [] => rfl
  | [], _ :: _ => rfl
  | _ :: _, [] => rfl
  | a :: l, b :: m => by
    unfold compareBytes
    rcases Nat.lt_trichotomy a.toNat b.toNat with h | h | h
    · have h1 : a < b := UInt8.lt_iff_toNat_lt.2 h
      have h2 : ¬ b < a := by rw [UInt8.lt_iff_toNat_lt]; omega
      rw [if_neg h2, if_pos h1, if_pos h1]; rfl
    · have : a = b := UInt8.toNat_inj.1 h
      subst this
      rw [if_neg (UInt8.lt_irrefl a), if_neg (UInt8.lt_irrefl a), if_neg (UInt8.lt_irrefl a), if_neg (UInt8.lt_irrefl a)]
      exact cb_anti l m
    · have h1 : b < a := UInt8.lt_iff_toNat_lt.2 h
      have h2 : ¬ a < b := by rw [UInt8.lt_iff_toNat_lt]; omega
      rw [if_pos h1, if_neg h2, if_pos h1]
theorem cb_zero : ∀ {l m : List UInt8}, compareBytes l m = 0 → l = m
  | [], [], _ => rfl
  | [], _ :: _, h => by simp [compareBytes] at h
  | _ :: _, [], h => by simp [compareBytes] at h
  | a :: l, b :: m, h => by
    unfold compareBytes at h
    by_cases h1 : a < b
    · rw [if_pos h1] at h; cases h
    · by_cases h2 : b < a
      · rw [if_neg h1, if_pos h2] at h; cases h
      · rw [if_neg h1, if_neg h2] at h
        rw [UInt8.lt_iff_toNat_lt] at h1 h2
        have : a = b := UInt8.toNat_inj.1 (by omega)
        subst this
        rw [cb_zero h]
theorem cb_range : ∀ (l m : List UInt8), compareBytes l m = -1 ∨ compareBytes l m = 0 ∨ compareBytes l m = 1
  | [], [] => .inr (.inl rfl)
  | [], _ :: _ => .inl rfl
  | _ :: _, [] => .inr (.inr rfl)
  | a :: l, b :: m => by
    unfold compareBytes
    split
    · exact .inl rfl
    · split
      · exact .inr (.inr rfl)
      · exact cb_range l m
theorem cb_trans : ∀ {l m k : List UInt8}, compareBytes l m < 0 → compareBytes m k < 0 → compareBytes l k < 0
  | [], [], _, h, _ => absurd h (by decide)
  | _ :: _, [], _, h, _ => absurd h (by simp [compareBytes])
  | _, _ :: _, [], _, h => absurd h (by simp [compareBytes])
  | [], _ :: _, _ :: _, _, _ => by simp [compareBytes]
  | a :: l, b :: m, c :: k, h1, h2 => by
    unfold compareBytes at h1 h2 ⊢
    by_cases e1 : a < b
    · by_cases e2 : b < c
      · rw [if_pos (UInt8.lt_trans e1 e2)]; decide
      · rw [if_neg e2] at h2
        by_cases e3 : c < b
        · rw [if_pos e3] at h2; cases h2
        · have e4 : b = c := by rw [UInt8.lt_iff_toNat_lt] at e2 e3; exact UInt8.toNat_inj.1 (by omega)
          subst e4
          rw [if_pos e1]; decide
    · rw [if_neg e1] at h1
      by_cases e2 : b < a
      · rw [if_pos e2] at h1; cases h1
      · rw [if_neg e2] at h1
        have e4 : a = b := by rw [UInt8.lt_iff_toNat_lt] at e1 e2; exact UInt8.toNat_inj.1 (by omega)
        subst e4
        by_cases e5 : a < c
        · rw [if_pos e5]; decide
        · rw [if_neg e5] at h2 ⊢
          by_cases e6 : c < a
          · rw [if_pos e6] at h2; cases h2
          · rw [if_neg e6] at h2 ⊢
            exact cb_trans h1 h2

theorem cb_cons (a b : UInt8) (l m : List UInt8) : compareBytes (a :: l) (b :: m) = if a < b then -1 else if b < a then 1 else compareBytes l m := rfl
/-- the bytes of a key from one on -/
def kF (k : Nat → UInt8) (s m : Nat) : List UInt8 := (List.range' s m).map k
def kL (k : Nat → UInt8) : List UInt8 := kF k 0 32
def cmpK (a b : Nat → UInt8) : Int := compareBytes (kL a) (kL b)
theorem kF_succ (k : Nat → UInt8) (s m : Nat) : kF k s (m + 1) = k s :: kF k (s + 1) m := by unfold kF; rw [List.range'_succ]; rfl
theorem cmp_upto (a b : Nat → UInt8) : ∀ (n : Nat), n ≤ 32 → (∀ j, j < n → a j = b j) → cmpK a b = compareBytes (kF a n (32 - n)) (kF b n (32 - n))
  | 0, _, _ => rfl
  | n + 1, hn, h => by
    rw [cmp_upto a b n (by omega) (fun j hj => h j (by omega)), show 32 - n = (32 - (n + 1)) + 1 by omega, kF_succ, kF_succ]
    rw [cb_cons, h n (by omega), if_neg (UInt8.lt_irrefl _), if_neg (UInt8.lt_irrefl _)]
theorem cmp_less (a b : Nat → UInt8) (n : Nat) (hn : n < 32) (h : ∀ j, j < n → a j = b j) (hl : (a n).toNat < (b n).toNat) : cmpK a b = -1 := by
  rw [cmp_upto a b n (by omega) h, show 32 - n = (32 - (n + 1)) + 1 by omega, kF_succ, kF_succ]
  rw [cb_cons]
  rw [if_pos (UInt8.lt_iff_toNat_lt.2 hl)]
theorem cmp_more (a b : Nat → UInt8) (n : Nat) (hn : n < 32) (h : ∀ j, j < n → a j = b j) (hl : (b n).toNat < (a n).toNat) : cmpK a b = 1 := by
  rw [cmp_upto a b n (by omega) h, show 32 - n = (32 - (n + 1)) + 1 by omega, kF_succ, kF_succ]
  rw [cb_cons]
  rw [if_neg (by rw [UInt8.lt_iff_toNat_lt]; omega), if_pos (UInt8.lt_iff_toNat_lt.2 hl)]
theorem cmp_same (a b : Nat → UInt8) (h : ∀ j, j < 32 → a j = b j) : cmpK a b = 0 := by
  rw [cmp_upto a b 32 (by omega) h]; rfl
theorem cmp_zero {a b : Nat → UInt8} (h : cmpK a b = 0) : ∀ i, i < 32 → a i = b i := by
  intro i hi
  have e := cb_zero h
  have := congrArg (fun l => l[i]?) e
  simpa [kL, kF, hi] using this

/-- the text of some bytes -/
def hexLs : List UInt8 → List UInt8
  | [] => []
  | b :: l => hexD (b.toNat / 16) :: hexD (b.toNat % 16) :: hexLs l
theorem hexLs_append (l m : List UInt8) : hexLs (l ++ m) = hexLs l ++ hexLs m := by
  induction l with
  | nil => rfl
  | cons b l ih => simp [hexLs, ih]
theorem hexL_eq (k : Nat → UInt8) (n : Nat) : hexL k n = hexLs (kF k 0 n) := by
  induction n with
  | zero => rfl
  | succ n ih =>
    show hexL k n ++ _ = _
    have : kF k 0 (n + 1) = kF k 0 n ++ [k n] := by unfold kF; rw [List.range'_concat, List.map_append]; simp
    rw [this, hexLs_append, ih]; rfl
theorem hexD_lt : ∀ (x y : Fin 16), (hexD x < hexD y ↔ x < y) := by decide
theorem hexD_less (x y : Nat) (hx : x < 16) (hy : y < 16) : hexD x < hexD y ↔ x < y := hexD_lt ⟨x, hx⟩ ⟨y, hy⟩
theorem hexD_inj (x y : Nat) (hx : x < 16) (hy : y < 16) (h : hexD x = hexD y) : x = y := by
  have h1 := hexD_less x y hx hy
  have h2 := hexD_less y x hy hx
  rw [h] at h1 h2
  have := UInt8.lt_irrefl (hexD y)
  rcases Nat.lt_trichotomy x y with h3 | h3 | h3
  · exact absurd (h1.2 h3) this
  · exact h3
  · exact absurd (h2.2 h3) this
/-- the order of texts is that of keys -/
theorem less_hex : ∀ (l m : List UInt8), Op.bytesLess (hexLs l) (hexLs m) = decide (compareBytes l m < 0)
  | [], [] => rfl
  | [], b :: m => by simp [hexLs, Op.bytesLess, compareBytes]
  | b :: l, [] => by simp [hexLs, Op.bytesLess, compareBytes]
  | a :: l, b :: m => by
    have ha := a.toNat_lt
    have hb := b.toNat_lt
    have ih := less_hex l m
    have e1 := hexD_less (a.toNat / 16) (b.toNat / 16) (by omega) (by omega)
    have e2 := hexD_less (a.toNat % 16) (b.toNat % 16) (by omega) (by omega)
    show (decide (hexD (a.toNat / 16) < hexD (b.toNat / 16)) || (hexD (a.toNat / 16) == hexD (b.toNat / 16) && (decide (hexD (a.toNat % 16) < hexD (b.toNat % 16)) || (hexD (a.toNat % 16) == hexD (b.toNat % 16) && Op.bytesLess (hexLs l) (hexLs m))))) = _
    unfold compareBytes
    rcases Nat.lt_trichotomy a.toNat b.toNat with h | h | h
    · rw [if_pos (UInt8.lt_iff_toNat_lt.2 h)]
      rcases Nat.lt_trichotomy (a.toNat / 16) (b.toNat / 16) with h1 | h1 | h1
      · rw [decide_eq_true (e1.2 h1)]; rfl
      · rw [h1, decide_eq_true (e2.2 (by omega))]; simp
      · omega
    · have : a = b := UInt8.toNat_inj.1 h
      subst this
      rw [if_neg (UInt8.lt_irrefl a), if_neg (UInt8.lt_irrefl a), ih]
      simp
    · rw [if_neg (by rw [UInt8.lt_iff_toNat_lt]; omega), if_pos (UInt8.lt_iff_toNat_lt.2 h)]
      have n1 : ¬ hexD (a.toNat / 16) < hexD (b.toNat / 16) := by rw [e1]; omega
      rw [decide_eq_false n1]
      by_cases h1 : a.toNat / 16 = b.toNat / 16
      · have n2 : ¬ hexD (a.toNat % 16) < hexD (b.toNat % 16) := by rw [e2]; omega
        have n3 : (hexD (a.toNat % 16) == hexD (b.toNat % 16)) = false := by
          rw [beq_eq_false_iff_ne]; intro e; have := hexD_inj _ _ (by omega) (by omega) e; omega
        rw [decide_eq_false n2, n3]; simp
      · have n3 : (hexD (a.toNat / 16) == hexD (b.toNat / 16)) = false := by
          rw [beq_eq_false_iff_ne]; intro e; exact h1 (hexD_inj _ _ (by omega) (by omega) e)
        rw [n3]; rfl
end Go.Proofs.Ytbhklhpeppaadaa
