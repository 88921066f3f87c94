/- SHA-256 as a plain function of bytes, in the shape in which the program and the reference compute it. No program stands here. -/
namespace Go.Proofs.Ytnhggaghidbniaa.Sha
set_option linter.unusedVariables false

/-- a word of 32 bits -/
abbrev Wd := BitVec 32

/-- the rotation to the right, as the reference writes it -/
def rotr (x : Wd) (n : Nat) : Wd := (x >>> n) ||| (x <<< (32 - n))

/-- the constants of the rounds -/
def kList : List Nat := [1116352408, 1899447441, 3049323471, 3921009573, 961987163, 1508970993, 2453635748, 2870763221, 3624381080, 310598401, 607225278, 1426881987, 1925078388, 2162078206, 2614888103, 3248222580, 3835390401, 4022224774, 264347078, 604807628, 770255983, 1249150122, 1555081692, 1996064986, 2554220882, 2821834349, 2952996808, 3210313671, 3336571891, 3584528711, 113926993, 338241895, 666307205, 773529912, 1294757372, 1396182291, 1695183700, 1986661051, 2177026350, 2456956037, 2730485921, 2820302411, 3259730800, 3345764771, 3516065817, 3600352804, 4094571909, 275423344, 430227734, 506948616, 659060556, 883997877, 958139571, 1322822218, 1537002063, 1747873779, 1955562222, 2024104815, 2227730452, 2361852424, 2428436474, 2756734187, 3204031479, 3329325298]
def kc (t : Nat) : Wd := BitVec.ofNat 32 (kList.getD t 0)

/-- the state of eight words -/
structure St where
  a : Wd
  b : Wd
  c : Wd
  d : Wd
  e : Wd
  f : Wd
  g : Wd
  h : Wd

def begin0 : St := ⟨BitVec.ofNat 32 1779033703, BitVec.ofNat 32 3144134277, BitVec.ofNat 32 1013904242, BitVec.ofNat 32 2773480762, BitVec.ofNat 32 1359893119, BitVec.ofNat 32 2600822924, BitVec.ofNat 32 528734635, BitVec.ofNat 32 1541459225⟩

/-- the word at bytes 4t .. 4t+3 -/
def word (b : Nat → UInt8) (t : Nat) : Wd :=
  (((BitVec.ofNat 32 (b (4 * t)).toNat <<< 24) ||| (BitVec.ofNat 32 (b (4 * t + 1)).toNat <<< 16)) ||| (BitVec.ofNat 32 (b (4 * t + 2)).toNat <<< 8)) ||| BitVec.ofNat 32 (b (4 * t + 3)).toNat

def sig0 (x : Wd) : Wd := (rotr x 7 ^^^ rotr x 18) ^^^ (x >>> 3)
def sig1 (y : Wd) : Wd := (rotr y 17 ^^^ rotr y 19) ^^^ (y >>> 10)

/-- the words of a block: the first n of them -/
def sched (b : Nat → UInt8) : Nat → List Wd
  | 0 => []
  | t + 1 =>
    let l := sched b t
    l ++ [if t < 16 then word b t else ((sig1 (l.getD (t - 2) 0) + l.getD (t - 7) 0) + sig0 (l.getD (t - 15) 0)) + l.getD (t - 16) 0]

def round (s : St) (k w : Wd) : St :=
  let x := (((s.h + ((rotr s.e 6 ^^^ rotr s.e 11) ^^^ rotr s.e 25)) + ((s.e &&& s.f) ^^^ (~~~ s.e &&& s.g))) + k) + w
  let y := ((rotr s.a 2 ^^^ rotr s.a 13) ^^^ rotr s.a 22) + (((s.a &&& s.b) ^^^ (s.a &&& s.c)) ^^^ (s.b &&& s.c))
  ⟨x + y, s.a, s.b, s.c, s.d + x, s.e, s.f, s.g⟩

/-- the state behind t rounds -/
def comp (s : St) (w : List Wd) : Nat → St
  | 0 => s
  | t + 1 => round (comp s w t) (kc t) (w.getD t 0)

def addSt (s v : St) : St := ⟨s.a + v.a, s.b + v.b, s.c + v.c, s.d + v.d, s.e + v.e, s.f + v.f, s.g + v.g, s.h + v.h⟩

/-- the state behind a block -/
def block (s : St) (b : Nat → UInt8) : St := addSt s (comp s (sched b 64) 64)

/-- the state behind k blocks -/
def blocks (s : St) (f : Nat → UInt8) : Nat → St
  | 0 => s
  | k + 1 => block (blocks s f k) (fun j => f (64 * k + j))

theorem sched_length (b : Nat → UInt8) (n : Nat) : (sched b n).length = n := by
  induction n with
  | zero => rfl
  | succ n ih => simp [sched, ih]

theorem word_congr {b b' : Nat → UInt8} {t : Nat} (ht : t < 16) (h : ∀ j, j < 64 → b j = b' j) : word b t = word b' t := by
  unfold word
  rw [h (4 * t) (by omega), h (4 * t + 1) (by omega), h (4 * t + 2) (by omega), h (4 * t + 3) (by omega)]

theorem sched_congr {b b' : Nat → UInt8} (h : ∀ j, j < 64 → b j = b' j) (n : Nat) : sched b n = sched b' n := by
  induction n with
  | zero => rfl
  | succ n ih =>
    simp only [sched, ih]
    by_cases hn : n < 16
    · rw [if_pos hn, if_pos hn, word_congr hn h]
    · rw [if_neg hn, if_neg hn]

theorem block_congr {b b' : Nat → UInt8} (s : St) (h : ∀ j, j < 64 → b j = b' j) : block s b = block s b' := by
  unfold block; rw [sched_congr h]

theorem blocks_congr {f f' : Nat → UInt8} (s : St) (k : Nat) (h : ∀ j, j < 64 * k → f j = f' j) : blocks s f k = blocks s f' k := by
  induction k with
  | zero => rfl
  | succ k ih =>
    simp only [blocks]
    rw [ih (fun j hj => h j (by omega))]
    exact block_congr _ (fun j hj => h _ (by omega))

theorem blocks_add (s : St) (f : Nat → UInt8) (k m : Nat) : blocks s f (k + m) = blocks (blocks s f k) (fun j => f (64 * k + j)) m := by
  induction m with
  | zero => rfl
  | succ m ih =>
    rw [← Nat.add_assoc]
    simp only [blocks, ih]
    refine block_congr _ (fun j _ => ?_)
    congr 1
    omega

/-- how long a message of n bytes is with its tail -/
def padLen (n : Nat) : Nat := 64 * ((n + 72) / 64)

/-- byte k of the length, the most significant one first -/
def lenByte (n k : Nat) : UInt8 := UInt8.ofNat ((n * 8 % 18446744073709551616) / 2 ^ (8 * (7 - k)))

/-- the message with its tail -/
def padF (n : Nat) (f : Nat → UInt8) (j : Nat) : UInt8 :=
  if j < n then f j else if j = n then 128 else if j < padLen n - 8 then 0 else lenByte n (j - (padLen n - 8))

/-- word i of a state -/
def wordOf (s : St) (i : Nat) : Wd :=
  if i = 0 then s.a else if i = 1 then s.b else if i = 2 then s.c else if i = 3 then s.d else if i = 4 then s.e else if i = 5 then s.f else if i = 6 then s.g else s.h

/-- byte i of the digest of a state -/
def outByte (s : St) (i : Nat) : UInt8 := UInt8.ofNat ((wordOf s (i / 4)).toNat / 2 ^ (24 - i % 4 * 8))

/-- byte i of the digest of the message of the n bytes f 0 .. f (n-1) -/
def sha (n : Nat) (f : Nat → UInt8) (i : Nat) : UInt8 := outByte (blocks begin0 (padF n f) (padLen n / 64)) i

theorem sha_congr {n : Nat} {f f' : Nat → UInt8} (h : ∀ j, j < n → f j = f' j) : sha n f = sha n f' := by
  funext i
  unfold sha
  congr 1
  refine blocks_congr _ _ (fun j _ => ?_)
  unfold padF
  by_cases hj : j < n
  · rw [if_pos hj, if_pos hj, h j hj]
  · rw [if_neg hj, if_neg hj]

theorem padLen_ge (n : Nat) : n + 9 ≤ padLen n ∧ padLen n < n + 73 ∧ padLen n / 64 * 64 = padLen n ∧ padLen n % 64 = 0 := by
  unfold padLen; omega
end Go.Proofs.Ytnhggaghidbniaa.Sha
