/- Numbers, fields and messages as bytes, in plain Lean. -/
import Derived.Test.YtnhggaghidbniaaApp
namespace Go.Proofs.Ytnhggaghidbniaa.Wir
set_option linter.unusedVariables false
set_option linter.unusedSimpArgs false

/-- the bytes of a number -/
def vint (n : Nat) : List UInt8 := if h : n < 128 then [UInt8.ofNat n] else UInt8.ofNat (n % 128 + 128) :: vint (n / 128)
termination_by n
decreasing_by omega
theorem vint_lt {n : Nat} (h : n < 128) : vint n = [UInt8.ofNat n] := by rw [vint, dif_pos h]
theorem vint_ge {n : Nat} (h : 128 ≤ n) : vint n = UInt8.ofNat (n % 128 + 128) :: vint (n / 128) := by rw [vint, dif_neg (by omega)]
theorem vint_pos (n : Nat) : 1 ≤ (vint n).length := by
  rcases Nat.lt_or_ge n 128 with h | h
  · rw [vint_lt h]; simp
  · rw [vint_ge h]; simp
theorem vint_len : ∀ (k n : Nat), n < 128 ^ (k + 1) → (vint n).length ≤ k + 1
  | 0, n, h => by rw [vint_lt (by simpa using h)]; simp
  | k + 1, n, h => by
    rcases Nat.lt_or_ge n 128 with h1 | h1
    · rw [vint_lt h1]; simp
    · rw [vint_ge h1, List.length_cons]
      have := vint_len k (n / 128) (by rw [Nat.div_lt_iff_lt_mul (by omega)]; rw [Nat.pow_succ] at h; exact h)
      omega

/-- what reading a number gives: the number and its length, or an error -/
inductive VR where
  | ok (n size : Nat)
  | bad (e : Int)
/-- the rest b from place i on, of which n was read -/
def rd : List UInt8 → Nat → Nat → VR
  | [], i, n => .bad 5
  | c :: r, i, n =>
    if i = 9 ∧ 1 < c.toNat then .bad 6 else if 0 < i ∧ c.toNat = 0 then .bad 4
    else if c.toNat < 128 then .ok (n + c.toNat % 128 * 128 ^ i) (i + 1) else rd r (i + 1) (n + c.toNat % 128 * 128 ^ i)
def readV (b : List UInt8) : VR := rd b 0 0

theorem toNat_small {n : Nat} (h : n < 256) : (UInt8.ofNat n).toNat = n := by rw [UInt8.toNat_ofNat', Nat.mod_eq_of_lt (by omega)]
/-- reading what was written -/
theorem rd_vint : ∀ (k i n m : Nat) (r : List UInt8), k + i = 9 → n < 128 ^ k * 2 → (0 < i → 0 < n) → rd (vint n ++ r) i m = .ok (m + n * 128 ^ i) (i + (vint n).length)
  | k, i, n, m, r, hk, hn, h0 => by
    rcases Nat.lt_or_ge n 128 with h | h
    · rw [vint_lt h]
      show rd (UInt8.ofNat n :: r) i m = _
      unfold rd
      rw [toNat_small (by omega)]
      rw [if_neg (by
        rintro ⟨h1, h2⟩
        have : k = 0 := by omega
        subst this
        simp at hn
        omega), if_neg (by rintro ⟨h1, h2⟩; have := h0 h1; omega), if_pos h, Nat.mod_eq_of_lt h]
      simp
    · rw [vint_ge h]
      have hk1 : 1 ≤ k := by
        rcases Nat.eq_zero_or_pos k with h1 | h1
        · subst h1; simp at hn; omega
        · exact h1
      obtain ⟨k', rfl⟩ : ∃ k', k = k' + 1 := ⟨k - 1, by omega⟩
      show rd (UInt8.ofNat (n % 128 + 128) :: (vint (n / 128) ++ r)) i m = _
      unfold rd
      rw [toNat_small (by omega)]
      rw [if_neg (by rintro ⟨h1, h2⟩; omega), if_neg (by rintro ⟨h1, h2⟩; omega), if_neg (by omega), rd_vint k' (i + 1) (n / 128) _ r (by omega) (by
        rw [Nat.div_lt_iff_lt_mul (by omega)]
        rw [Nat.pow_succ] at hn
        rw [Nat.mul_assoc, Nat.mul_comm 2 128, ← Nat.mul_assoc]
        exact hn) (fun _ => Nat.div_pos h (by omega))]
      congr 1
      · have e1 : (n % 128 + 128) % 128 = n % 128 := by omega
        rw [e1, Nat.pow_succ]
        have : n = n % 128 + 128 * (n / 128) := (Nat.mod_add_div n 128).symm
        conv => rhs; rw [this]
        rw [Nat.add_mul, Nat.add_assoc]
        congr 2
        rw [Nat.mul_comm (128 ^ i) 128, ← Nat.mul_assoc, Nat.mul_comm (n / 128) 128]
      · rw [List.length_cons]; omega
theorem readV_vint {n : Nat} (h : n < 2 ^ 64) (r : List UInt8) : readV (vint n ++ r) = .ok n (vint n).length := by
  have := rd_vint 9 0 n 0 r rfl (by rw [show (128 : Nat) ^ 9 * 2 = 2 ^ 64 by decide]; exact h) (fun h => absurd h (by omega))
  rw [readV, this]
  simp
/-- what was read is what would be written -/
theorem rd_inv : ∀ (b : List UInt8) (i m N s : Nat), i ≤ 9 → rd b i m = .ok N s → ∃ n, N = m + n * 128 ^ i ∧ s = i + (vint n).length ∧ s ≤ i + b.length ∧ b.take (s - i) = vint n ∧ n < 128 ^ (9 - i) * 2 ∧ (0 < i → 0 < n)
  | [], i, m, N, s, hi, h => by unfold rd at h; cases h
  | c :: r, i, m, N, s, hi, h => by
    unfold rd at h
    split at h
    · cases h
    rename_i h9
    split at h
    · cases h
    rename_i h0
    have hc := c.toNat_lt
    split at h
    · rename_i h128
      injection h with h1 h2
      have hv : vint c.toNat = [c] := by rw [vint_lt h128, UInt8.ofNat_toNat]
      refine ⟨c.toNat, ?_, ?_, ?_, ?_, ?_, ?_⟩
      · rw [← h1, Nat.mod_eq_of_lt h128]
      · rw [hv, ← h2]; rfl
      · rw [← h2, List.length_cons]; omega
      · rw [← h2, hv, show i + 1 - i = 1 by omega]; rfl
      · rcases Nat.lt_or_ge i 9 with hlt | hge
        · obtain ⟨d, hd⟩ : ∃ d, 9 - i = d + 1 := ⟨8 - i, by omega⟩
          rw [hd, Nat.pow_succ]
          have := Nat.pow_pos (n := d) (show 0 < 128 by omega)
          have h3 : 1 * 128 ≤ 128 ^ d * 128 := Nat.mul_le_mul_right _ this
          omega
        · have : i = 9 := by omega
          subst this
          simp
          omega
      · intro hp; omega
    · rename_i h128
      rcases Nat.lt_or_ge i 9 with hlt | hge
      · obtain ⟨n, e1, e2, e3, e4, e5, e6⟩ := rd_inv r (i + 1) _ N s (by omega) h
        have hn := e6 (by omega)
        have hv : vint (c.toNat % 128 + 128 * n) = c :: vint n := by
          rw [vint_ge (by omega)]
          rw [show (c.toNat % 128 + 128 * n) % 128 + 128 = c.toNat by omega, show (c.toNat % 128 + 128 * n) / 128 = n by omega, UInt8.ofNat_toNat]
        refine ⟨c.toNat % 128 + 128 * n, ?_, ?_, ?_, ?_, ?_, ?_⟩
        · rw [e1, Nat.add_mul, Nat.add_assoc, Nat.pow_succ]
          congr 2
          rw [Nat.mul_comm (128 ^ i) 128, ← Nat.mul_assoc, Nat.mul_comm n 128]
        · rw [hv, List.length_cons]; omega
        · rw [List.length_cons]; omega
        · rw [hv]
          obtain ⟨d, hd⟩ : ∃ d, s - i = d + 1 := ⟨s - (i + 1), by have := vint_pos n; omega⟩
          rw [hd, List.take_succ_cons, ← e4]
          congr 2
          omega
        · obtain ⟨d, hd⟩ : ∃ d, 9 - i = d + 1 := ⟨8 - i, by omega⟩
          rw [show 9 - (i + 1) = d by omega] at e5
          rw [hd, Nat.pow_succ]
          generalize 128 ^ d = X at e5 ⊢
          omega
        · intro hp; omega
      · have : i = 9 := by omega
        subst this
        exact absurd ⟨rfl, by omega⟩ h9
theorem readV_inv {b : List UInt8} {n s : Nat} (h : readV b = .ok n s) : n < 2 ^ 64 ∧ s = (vint n).length ∧ s ≤ b.length ∧ b.take s = vint n ∧ 1 ≤ s := by
  obtain ⟨k, e1, e2, e3, e4, e5, _⟩ := rd_inv b 0 0 n s (by omega) h
  have : n = k := by rw [e1]; simp
  subst this
  refine ⟨by rw [show (2 : Nat) ^ 64 = 128 ^ 9 * 2 by decide]; exact e5, by omega, by omega, by simpa using e4, ?_⟩
  have := vint_pos n
  omega

/-! ### fields -/
structure Fld where
  num : Int
  kind : Int
  val : Nat
  bytes : List UInt8
def Fld.right (f : Fld) : Bool := decide (1 ≤ f.num) && decide (f.num ≤ 536870911) && ((decide (f.kind = 0) && decide (f.bytes.length = 0)) || (decide (f.kind = 2) && decide (f.val = 0)))
/-- the bytes of a right field -/
def enc (f : Fld) : List UInt8 := vint (8 * f.num + f.kind).toNat ++ (if f.kind = 0 then vint f.val else vint f.bytes.length ++ f.bytes)
inductive FR where
  | ok (f : Fld) (size : Nat)
  | bad (e : Int)
def readF (b : List UInt8) : FR :=
  match readV b with
  | .bad e => .bad e
  | .ok n s =>
    if n / 8 < 1 ∨ 536870911 < n / 8 ∨ ¬ (n % 8 = 0 ∨ n % 8 = 2) then .bad 4 else
    match readV (b.drop s) with
    | .bad e => .bad e
    | .ok v m =>
      if n % 8 = 0 then .ok ⟨(n / 8 : Nat), 0, v, []⟩ (s + m) else
      if (b.drop (s + m)).length < v then .bad 5 else .ok ⟨(n / 8 : Nat), 2, 0, (b.drop (s + m)).take v⟩ (s + m + v)
theorem readF_enc {f : Fld} (hr : f.right = true) (hv : f.val < 2 ^ 64) (hb : f.bytes.length < 2 ^ 64) (r : List UInt8) : readF (enc f ++ r) = .ok f (enc f).length := by
  obtain ⟨num, kind, val, bytes⟩ := f
  unfold Fld.right at hr
  simp only [Bool.and_eq_true, Bool.or_eq_true, decide_eq_true_eq] at hr
  obtain ⟨⟨h1, h2⟩, h3⟩ := hr
  simp only at hv hb
  obtain ⟨a, rfl⟩ : ∃ a : Nat, num = a := ⟨num.toNat, by omega⟩
  rcases h3 with ⟨rfl, h4⟩ | ⟨rfl, rfl⟩
  · have hbn : bytes = [] := List.length_eq_zero_iff.1 h4
    subst hbn
    have et : (8 * (a : Int) + 0).toNat = 8 * a := by omega
    unfold enc readF
    simp only [et, if_true, List.append_assoc]
    rw [readV_vint (by omega)]
    simp only []
    rw [if_neg (by omega), List.drop_left, readV_vint hv]
    simp only []
    rw [if_pos (by omega)]
    rw [show 8 * a / 8 = a by omega, List.length_append]
  · have et : (8 * (a : Int) + 2).toNat = 8 * a + 2 := by omega
    unfold enc readF
    simp only [et, if_neg (show ¬ (2 : Int) = 0 by omega), List.append_assoc]
    rw [readV_vint (by omega)]
    simp only []
    rw [if_neg (by omega), List.drop_left, readV_vint hb]
    simp only []
    rw [if_neg (by omega), ← List.drop_drop, List.drop_left, List.drop_left, if_neg (by rw [List.length_append]; omega), List.take_left]
    rw [show (8 * a + 2) / 8 = a by omega, List.length_append, List.length_append]
    congr 1
    omega
theorem readF_inv {b : List UInt8} {f : Fld} {s : Nat} (h : readF b = .ok f s) : f.right = true ∧ f.val < 2 ^ 64 ∧ s = (enc f).length ∧ s ≤ b.length ∧ b.take s = enc f ∧ 2 ≤ s ∧ f.bytes.length ≤ b.length := by
  unfold readF at h
  split at h
  · cases h
  rename_i n s1 h1
  split at h
  · cases h
  rename_i hk
  split at h
  · cases h
  rename_i v m h2
  obtain ⟨n64, hs1, l1, t1, p1⟩ := readV_inv h1
  obtain ⟨v64, hm, l2, t2, p2⟩ := readV_inv h2
  rw [List.length_drop] at l2
  have hk : 1 ≤ n / 8 ∧ n / 8 ≤ 536870911 ∧ (n % 8 = 0 ∨ n % 8 = 2) := by omega
  split at h
  · rename_i h0
    injection h with h3 h4
    subst h3 h4
    have et : (8 * ((n / 8 : Nat) : Int) + 0).toNat = n := by omega
    have he : enc ⟨(n / 8 : Nat), 0, v, []⟩ = vint n ++ vint v := by unfold enc; simp only [et, if_true]
    rw [he]
    refine ⟨by unfold Fld.right; simp; omega, v64, by rw [List.length_append, ← hs1, ← hm], by omega, ?_, by omega, Nat.zero_le _⟩
    rw [List.take_add, t1, t2]
  · rename_i h0
    split at h
    · cases h
    rename_i hv
    injection h with h3 h4
    subst h3 h4
    rw [List.length_drop] at hv
    have hl : ((b.drop (s1 + m)).take v).length = v := by rw [List.length_take, List.length_drop]; omega
    have et : (8 * ((n / 8 : Nat) : Int) + 2).toNat = n := by omega
    have he : enc ⟨(n / 8 : Nat), 2, 0, (b.drop (s1 + m)).take v⟩ = vint n ++ (vint v ++ (b.drop (s1 + m)).take v) := by unfold enc; simp only [et, if_neg (show ¬ (2 : Int) = 0 by omega), hl]
    rw [he]
    refine ⟨by unfold Fld.right; simp; omega, by simp, by rw [List.length_append, List.length_append, ← hs1, ← hm, hl]; omega, by omega, ?_, by omega, by simp only [hl]; omega⟩
    rw [List.take_add, List.take_add, t1, t2, List.append_assoc]

/-! ### messages -/
def msg (l : List Fld) : List UInt8 := l.flatMap enc
/-- the fields of a message, of which k were read before -/
def parse (b : List UInt8) (k : Nat) : Option (List Fld) :=
  if hb : b = [] then some [] else if k = 1024 then none else
  match h : readF b with
  | .bad _ => none
  | .ok f s => (parse (b.drop s) (k + 1)).map (f :: ·)
termination_by b.length
decreasing_by
  have := (readF_inv h).2.2.2.2.2.1
  have h0 := List.length_pos_iff.2 hb
  rw [List.length_drop]
  omega
theorem parse_nil (k : Nat) : parse [] k = some [] := by rw [parse, dif_pos rfl]
theorem parse_full {b : List UInt8} (hb : b ≠ []) : parse b 1024 = none := by rw [parse, dif_neg hb, if_pos rfl]
theorem parse_bad {b : List UInt8} {k : Nat} {e : Int} (hb : b ≠ []) (hk : k ≠ 1024) (h : readF b = .bad e) : parse b k = none := by
  rw [parse, dif_neg hb, if_neg hk]
  split
  · rfl
  · rename_i f s h'; rw [h] at h'; cases h'
theorem parse_ok {b : List UInt8} {k s : Nat} {f : Fld} (hb : b ≠ []) (hk : k ≠ 1024) (h : readF b = .ok f s) : parse b k = (parse (b.drop s) (k + 1)).map (f :: ·) := by
  rw [parse, dif_neg hb, if_neg hk]
  split
  · rename_i h'; rw [h] at h'; cases h'
  · rename_i f' s' h'; rw [h] at h'; injection h' with h1 h2; subst h1 h2; rfl
def Okay (f : Fld) : Prop := f.right = true ∧ f.val < 2 ^ 64 ∧ f.bytes.length < 2 ^ 64
theorem enc_pos (f : Fld) : 1 ≤ (enc f).length := by unfold enc; rw [List.length_append]; have := vint_pos (8 * f.num + f.kind).toNat; omega
theorem msg_cons (f : Fld) (l : List Fld) : msg (f :: l) = enc f ++ msg l := rfl
theorem msg_append (a b : List Fld) : msg (a ++ b) = msg a ++ msg b := by unfold msg; rw [List.flatMap_append]
theorem parse_msg : ∀ (l : List Fld) (k : Nat), (∀ f ∈ l, Okay f) → k + l.length ≤ 1024 → parse (msg l) k = some l
  | [], k, _, _ => parse_nil k
  | f :: l, k, h, hk => by
    have ho := h f (by simp)
    rw [List.length_cons] at hk
    rw [msg_cons, parse_ok (by intro e; have h1 := congrArg List.length e; rw [List.length_append, List.length_nil] at h1; have := enc_pos f; omega) (by omega) (readF_enc ho.1 ho.2.1 ho.2.2 _), List.drop_left, parse_msg l (k + 1) (fun g hg => h g (by simp [hg])) (by omega)]
    rfl
theorem parse_inv : ∀ (d : Nat) (b : List UInt8) (k : Nat) (l : List Fld), b.length = d → b.length < 2 ^ 64 → k ≤ 1024 → parse b k = some l → msg l = b ∧ (∀ f ∈ l, Okay f ∧ f.bytes.length ≤ b.length) ∧ k + l.length ≤ 1024 := by
  intro d
  induction d using Nat.strongRecOn with
  | _ d ih =>
    intro b k l hd h64 hk1 h
    rcases List.eq_nil_or_concat b with hb | _
    · subst hb
      rw [parse_nil] at h
      injection h with h
      subst h
      exact ⟨rfl, fun f hf => by simp at hf, by simpa using hk1⟩
    · by_cases hb : b = []
      · subst hb
        rw [parse_nil] at h
        injection h with h
        subst h
        exact ⟨rfl, fun f hf => by simp at hf, by simpa using hk1⟩
      by_cases hk : k = 1024
      · subst hk; rw [parse_full hb] at h; cases h
      cases hr : readF b with
      | bad e => rw [parse_bad hb hk hr] at h; cases h
      | ok f s =>
        rw [parse_ok hb hk hr] at h
        obtain ⟨l', h1, rfl⟩ := Option.map_eq_some_iff.1 h
        obtain ⟨r1, r2, r3, r4, r5, r6, r7⟩ := readF_inv hr
        obtain ⟨m1, m2, m3⟩ := ih _ (by rw [List.length_drop]; omega) (b.drop s) (k + 1) l' rfl (by rw [List.length_drop]; omega) (by omega) h1
        refine ⟨?_, ?_, ?_⟩
        · rw [msg_cons, m1, ← r5, List.take_append_drop]
        · intro g hg
          rcases List.mem_cons.1 hg with rfl | hg
          · exact ⟨⟨r1, r2, by omega⟩, r7⟩
          · have := m2 g hg
            rw [List.length_drop] at this
            exact ⟨this.1, by omega⟩
        · rw [List.length_cons]; omega
end Go.Proofs.Ytnhggaghidbniaa.Wir
