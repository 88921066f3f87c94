/- Blocks as bytes, in plain Lean. -/
import Derived.Test.YtnhggaghidbniaaWirSpec
namespace Go.Proofs.Ytnhggaghidbniaa.Wir
set_option linter.unusedVariables false
set_option linter.unusedSimpArgs false

def kL (k : Nat → UInt8) : List UInt8 := (List.range 32).map k
theorem kL_len (k : Nat → UInt8) : (kL k).length = 32 := by simp [kL]
/-- a key out of bytes -/
def kOf (l : List UInt8) : Nat → UInt8 := fun j => l.getD j 0
theorem kL_kOf {l : List UInt8} (h : l.length = 32) : kL (kOf l) = l := by
  refine List.ext_getElem (by rw [kL_len, h]) fun i h1 h2 => ?_
  unfold kL kOf
  simp [List.getD_eq_getElem?_getD, h2]
/-- a header -/
structure Hd where
  h : Int
  t : Int
  p : Int
  par : Nat → UInt8
  txs : Nat → UInt8
  app : Nat → UInt8
  res : Nat → UInt8
def numF (i : Int) (n : Int) : Fld := ⟨i, 0, (max n 0).toNat, []⟩
def bytF (i : Int) (b : List UInt8) : Fld := ⟨i, 2, 0, b⟩
def hdFields (x : Hd) : List Fld := [numF 1 x.h, numF 2 x.t, numF 3 x.p, bytF 4 (kL x.par), bytF 5 (kL x.txs), bytF 6 (kL x.app), bytF 7 (kL x.res)]
def headerB (x : Hd) : List UInt8 := msg (hdFields x)
def blkFields (x : Hd) (txs : List (List UInt8)) : List Fld := bytF 1 (headerB x) :: txs.map (bytF 2)
def form (x : Hd) (txs : List (List UInt8)) : List UInt8 := msg (blkFields x txs)
def Hd.fits (x : Hd) : Prop := (-9223372036854775808 ≤ x.h ∧ x.h ≤ 9223372036854775807) ∧ (-9223372036854775808 ≤ x.t ∧ x.t ≤ 9223372036854775807) ∧ (-9223372036854775808 ≤ x.p ∧ x.p ≤ 9223372036854775807)
def numsOk (x : Hd) : Bool := decide (1 ≤ x.h) && decide (x.h ≤ 1073741824) && decide (1 ≤ x.t) && decide (x.t ≤ 1099511627776) && decide (0 ≤ x.p) && decide (x.p < 8)
/-- the error of an encoding; 0: none -/
def encE (x : Hd) (txs : List (List UInt8)) : Int := if numsOk x = false then 1 else if 512 < txs.length then 3 else if 2097152 < (form x txs).length then 3 else 0
def encB (x : Hd) (txs : List (List UInt8)) : List UInt8 := if encE x txs = 0 then form x txs else []

theorem numF_okay {i n : Int} (hi : 1 ≤ i ∧ i ≤ 7) (hn : n ≤ 9223372036854775807) : Okay (numF i n) := by
  refine ⟨?_, ?_, ?_⟩
  · unfold numF Fld.right; simp; omega
  · show (max n 0).toNat < _; omega
  · show 0 < _; decide
theorem bytF_okay {i : Int} {b : List UInt8} (hi : 1 ≤ i ∧ i ≤ 7) (hb : b.length < 2 ^ 64) : Okay (bytF i b) := by
  refine ⟨?_, ?_, hb⟩
  · unfold bytF Fld.right; simp; omega
  · show 0 < _; decide
theorem hdFields_okay {x : Hd} (h : x.fits) : ∀ f ∈ hdFields x, Okay f := by
  obtain ⟨⟨_, h1⟩, ⟨_, h2⟩, ⟨_, h3⟩⟩ := h
  intro f hf
  unfold hdFields at hf
  simp only [List.mem_cons, List.not_mem_nil, or_false] at hf
  have hk : ∀ k, (kL k).length < 2 ^ 64 := fun k => by rw [kL_len]; decide
  rcases hf with rfl | rfl | rfl | rfl | rfl | rfl | rfl
  · exact numF_okay (by omega) h1
  · exact numF_okay (by omega) h2
  · exact numF_okay (by omega) h3
  · exact bytF_okay (by omega) (hk _)
  · exact bytF_okay (by omega) (hk _)
  · exact bytF_okay (by omega) (hk _)
  · exact bytF_okay (by omega) (hk _)
theorem enc_num_le {i n : Int} (hi : 1 ≤ i ∧ i ≤ 7) (hn : n ≤ 9223372036854775807) : (enc (numF i n)).length ≤ 11 := by
  unfold enc numF
  simp only [if_true, List.length_append]
  have h1 := vint_len 0 (8 * i + 0).toNat (by omega)
  have h2 := vint_len 9 (max n 0).toNat (by rw [show (128 : Nat) ^ (9 + 1) = 1180591620717411303424 by decide]; omega)
  omega
theorem enc_key_le {i : Int} (hi : 1 ≤ i ∧ i ≤ 7) (k : Nat → UInt8) : (enc (bytF i (kL k))).length ≤ 34 := by
  unfold enc bytF
  simp only [if_neg (show ¬ (2 : Int) = 0 by omega), List.length_append, kL_len]
  have h1 := vint_len 0 (8 * i + 2).toNat (by omega)
  have h2 := vint_len 0 32 (by omega)
  omega
theorem headerB_le {x : Hd} (h : x.fits) : (headerB x).length ≤ 169 := by
  obtain ⟨⟨_, h1⟩, ⟨_, h2⟩, ⟨_, h3⟩⟩ := h
  unfold headerB hdFields msg
  simp only [List.flatMap_cons, List.flatMap_nil, List.length_append, List.length_nil]
  have a1 := enc_num_le (i := 1) (by omega) h1
  have a2 := enc_num_le (i := 2) (by omega) h2
  have a3 := enc_num_le (i := 3) (by omega) h3
  have a4 := enc_key_le (i := 4) (by omega) x.par
  have a5 := enc_key_le (i := 5) (by omega) x.txs
  have a6 := enc_key_le (i := 6) (by omega) x.app
  have a7 := enc_key_le (i := 7) (by omega) x.res
  omega
/-- the header that seven fields give -/
def hdOf (l : List Fld) : Option Hd :=
  match l with
  | [a, b, c, d, e, f, g] =>
    if a.val < 2 ^ 63 ∧ b.val < 2 ^ 63 ∧ c.val < 2 ^ 63 ∧ d.bytes.length = 32 ∧ e.bytes.length = 32 ∧ f.bytes.length = 32 ∧ g.bytes.length = 32 then
      some ⟨a.val, b.val, c.val, kOf d.bytes, kOf e.bytes, kOf f.bytes, kOf g.bytes⟩ else none
  | _ => none
/-- numbers and kinds are those of a header -/
def shape (l : List Fld) : Bool := l.map (fun f => (f.num, f.kind)) == [(1, 0), (2, 0), (3, 0), (4, 2), (5, 2), (6, 2), (7, 2)]
/-- a header message is read: as the program does -/
def readH (b : List UInt8) : Option Hd :=
  match parse b 0 with
  | none => none
  | some l => if shape l = true then hdOf l else none
theorem right_num {f : Fld} (h : f.right = true) (hk : f.kind = 0) : f = ⟨f.num, 0, f.val, []⟩ := by
  obtain ⟨a, k, v, b⟩ := f
  simp only at hk
  subst hk
  unfold Fld.right at h
  simp only [Bool.and_eq_true, Bool.or_eq_true, decide_eq_true_eq] at h
  obtain ⟨_, h | h⟩ := h
  · have := List.length_eq_zero_iff.1 h.2
    subst this
    rfl
  · omega
theorem right_byt {f : Fld} (h : f.right = true) (hk : f.kind = 2) : f = ⟨f.num, 2, 0, f.bytes⟩ := by
  obtain ⟨a, k, v, b⟩ := f
  simp only at hk
  subst hk
  unfold Fld.right at h
  simp only [Bool.and_eq_true, Bool.or_eq_true, decide_eq_true_eq] at h
  obtain ⟨_, h | h⟩ := h
  · omega
  · have := h.2
    subst this
    rfl
theorem hdOf_fits {l : List Fld} {x : Hd} (h : hdOf l = some x) : x.fits ∧ 0 ≤ x.h ∧ 0 ≤ x.t ∧ 0 ≤ x.p := by
  unfold hdOf at h
  split at h
  · split at h
    · rename_i hc
      injection h with h
      subst h
      unfold Hd.fits
      simp only []
      omega
    · cases h
  · cases h
theorem hdFields_of {l : List Fld} {x : Hd} (hr : ∀ f ∈ l, f.right = true) (hs : shape l = true) (h : hdOf l = some x) : hdFields x = l := by
  unfold hdOf at h
  split at h
  · rename_i a b c d e f g
    split at h
    · rename_i hc
      obtain ⟨ha, hb, hc', hd, he, hf, hg⟩ := hc
      injection h with h
      subst h
      unfold shape at hs
      simp only [List.map_cons, List.map_nil, beq_iff_eq, List.cons.injEq, Prod.mk.injEq, and_true] at hs
      obtain ⟨⟨a1, a2⟩, ⟨b1, b2⟩, ⟨c1, c2⟩, ⟨d1, d2⟩, ⟨e1, e2⟩, ⟨f1, f2⟩, ⟨g1, g2⟩⟩ := hs
      unfold hdFields numF bytF
      simp only [kL_kOf hd, kL_kOf he, kL_kOf hf, kL_kOf hg]
      rw [right_num (hr a (by simp)) a2, right_num (hr b (by simp)) b2, right_num (hr c (by simp)) c2, right_byt (hr d (by simp)) d2, right_byt (hr e (by simp)) e2, right_byt (hr f (by simp)) f2, right_byt (hr g (by simp)) g2]
      simp only [a1, b1, c1, d1, e1, f1, g1]
      congr 2
      · omega
      congr 2
      · omega
      congr 2
      omega
    · cases h
  · cases h
theorem hdOf_fields (x : Hd) : shape (hdFields x) = true := rfl
theorem hdOf_again {x : Hd} (hf : x.fits) (h0 : 0 ≤ x.h ∧ 0 ≤ x.t ∧ 0 ≤ x.p) : ∃ y, hdOf (hdFields x) = some y ∧ y.h = x.h ∧ y.t = x.t ∧ y.p = x.p ∧ (kL y.par = kL x.par ∧ kL y.txs = kL x.txs ∧ kL y.app = kL x.app ∧ kL y.res = kL x.res) := by
  obtain ⟨⟨_, h1⟩, ⟨_, h2⟩, ⟨_, h3⟩⟩ := hf
  have hc : (max x.h 0).toNat < 2 ^ 63 ∧ (max x.t 0).toNat < 2 ^ 63 ∧ (max x.p 0).toNat < 2 ^ 63 ∧ (kL x.par).length = 32 ∧ (kL x.txs).length = 32 ∧ (kL x.app).length = 32 ∧ (kL x.res).length = 32 :=
    ⟨by omega, by omega, by omega, kL_len _, kL_len _, kL_len _, kL_len _⟩
  refine ⟨_, if_pos hc, ?_, ?_, ?_, kL_kOf (kL_len _), kL_kOf (kL_len _), kL_kOf (kL_len _), kL_kOf (kL_len _)⟩
  · show ((max x.h 0).toNat : Int) = _; omega
  · show ((max x.t 0).toNat : Int) = _; omega
  · show ((max x.p 0).toNat : Int) = _; omega
/-- as the reference does -/
theorem readH_ref {b : List UInt8} {l : List Fld} {x : Hd} (h64 : b.length < 2 ^ 64) (hp : parse b 0 = some l) (hx : hdOf l = some x) : (headerB x = b ↔ shape l = true) := by
  obtain ⟨m1, m2, m3⟩ := parse_inv _ b 0 l rfl h64 (by omega) hp
  constructor
  · intro e
    have hf := hdOf_fits hx
    have h1 := parse_msg (hdFields x) 0 (hdFields_okay hf.1) (by show 0 + 7 ≤ 1024; omega)
    unfold headerB at e
    rw [e, hp] at h1
    injection h1 with h1
    rw [h1]
    rfl
  · intro hs
    unfold headerB
    rw [hdFields_of (fun f hf => (m2 f hf).1.1) hs hx, m1]
/-- the error of a decoding, 0: none; the header; the transactions -/
def decode (b : List UInt8) : Except Int (Hd × List (List UInt8)) :=
  if 2097152 < b.length then .error 3 else
  match parse b 0 with
  | none => .error 4
  | some [] => .error 4
  | some (f :: r) =>
    if f.num ≠ 1 ∨ f.kind ≠ 2 then .error 4 else
    match readH f.bytes with
    | none => .error 4
    | some x => if r.all (fun g => decide (g.num = 2) && decide (g.kind = 2)) = true then (if encE x (r.map Fld.bytes) = 0 then .ok (x, r.map Fld.bytes) else .error (encE x (r.map Fld.bytes))) else .error 4
theorem blkFields_okay {x : Hd} {txs : List (List UInt8)} (hf : x.fits) (ht : ∀ b ∈ txs, b.length < 2 ^ 64) : ∀ f ∈ blkFields x txs, Okay f := by
  intro f hm
  unfold blkFields at hm
  rcases List.mem_cons.1 hm with rfl | hm
  · exact bytF_okay (by omega) (by have := headerB_le hf; omega)
  · obtain ⟨b, hb, rfl⟩ := List.mem_map.1 hm
    exact bytF_okay (by omega) (ht b hb)
theorem map_bytF {r : List Fld} (hr : ∀ f ∈ r, f.right = true) (ha : r.all (fun g => decide (g.num = 2) && decide (g.kind = 2)) = true) : (r.map Fld.bytes).map (bytF 2) = r := by
  rw [List.map_map]
  conv => rhs; rw [← List.map_id r]
  refine List.map_congr_left fun f hf => ?_
  have h1 := List.all_eq_true.1 ha f hf
  simp only [Bool.and_eq_true, decide_eq_true_eq] at h1
  show (⟨2, 2, 0, f.bytes⟩ : Fld) = f
  rw [right_byt (hr f hf) h1.2, h1.1]
/-- what the reference compares: the form of what was read and what was given -/
theorem form_iff {b : List UInt8} {f : Fld} {r : List Fld} {x : Hd} (h64 : b.length < 2 ^ 64) (hp : parse b 0 = some (f :: r)) (hx : readH f.bytes = some x) :
    (form x (r.map Fld.bytes) = b ↔ (f.num = 1 ∧ f.kind = 2) ∧ r.all (fun g => decide (g.num = 2) && decide (g.kind = 2)) = true) := by
  obtain ⟨m1, m2, m3⟩ := parse_inv _ b 0 _ rfl h64 (by omega) hp
  have hfb := (m2 f (by simp)).1.2.2
  have hxx : ∃ l, parse f.bytes 0 = some l ∧ shape l = true ∧ hdOf l = some x := by
    unfold readH at hx
    split at hx
    · cases hx
    · rename_i l hl
      split at hx
      · exact ⟨l, hl, by assumption, hx⟩
      · cases hx
  obtain ⟨l, hl, hs, hh⟩ := hxx
  have hfit := (hdOf_fits hh).1
  have hbb : headerB x = f.bytes := (readH_ref hfb hl hh).2 hs
  constructor
  · intro e
    have h1 := parse_msg (blkFields x (r.map Fld.bytes)) 0 (blkFields_okay hfit (fun b hb => by
      obtain ⟨g, hg, rfl⟩ := List.mem_map.1 hb
      exact (m2 g (by simp [hg])).1.2.2)) (by unfold blkFields; rw [List.length_cons, List.length_map, List.length_map]; rw [List.length_cons] at m3; omega)
    unfold form at e
    rw [e, hp] at h1
    injection h1 with h1
    unfold blkFields at h1
    injection h1 with h2 h3
    refine ⟨by rw [h2]; exact ⟨rfl, rfl⟩, List.all_eq_true.2 fun g hg => ?_⟩
    rw [h3] at hg
    obtain ⟨y, _, rfl⟩ := List.mem_map.1 hg
    rfl
  · rintro ⟨⟨h1, h2⟩, h3⟩
    unfold form blkFields
    rw [map_bytF (fun g hg => (m2 g (by simp [hg])).1.1) h3, hbb]
    have : bytF 1 f.bytes = f := by
      show (⟨1, 2, 0, f.bytes⟩ : Fld) = f
      rw [right_byt (m2 f (by simp)).1.1 h2, h1]
    rw [this, m1]
/-- what is decoded is what would be encoded -/
theorem decode_form {b : List UInt8} {x : Hd} {txs : List (List UInt8)} (h : decode b = .ok (x, txs)) : encE x txs = 0 ∧ form x txs = b ∧ x.fits ∧ b.length ≤ 2097152 ∧ txs.length ≤ 1024 ∧ ∀ t ∈ txs, t.length ≤ b.length := by
  unfold decode at h
  split at h
  · cases h
  rename_i hlen
  have h64 : b.length < 2 ^ 64 := by omega
  split at h
  · cases h
  · cases h
  · rename_i f r hp
    split at h
    · cases h
    rename_i hf
    split at h
    · cases h
    rename_i y hy
    split at h
    · rename_i ha
      split at h
      · rename_i he
        injection h with h
        injection h with h1 h2
        subst h1 h2
        obtain ⟨m1, m2, m3⟩ := parse_inv _ b 0 _ rfl h64 (by omega) hp
        refine ⟨he, (form_iff h64 hp hy).2 ⟨by omega, ha⟩, ?_, by omega, ?_, ?_⟩
        · unfold readH at hy
          split at hy
          · cases hy
          · split at hy
            · exact (hdOf_fits hy).1
            · cases hy
        · rw [List.length_cons] at m3; rw [List.length_map]; omega
        · intro t ht
          obtain ⟨g, hg, rfl⟩ := List.mem_map.1 ht
          exact (m2 g (by simp [hg])).2
      · cases h
    · cases h
/-- headers alike: keys by their 32 bytes -/
def Hd.same (x y : Hd) : Prop := y.h = x.h ∧ y.t = x.t ∧ y.p = x.p ∧ (kL y.par = kL x.par ∧ kL y.txs = kL x.txs ∧ kL y.app = kL x.app ∧ kL y.res = kL x.res)
theorem Hd.same.fields {x y : Hd} (h : x.same y) : hdFields y = hdFields x := by
  obtain ⟨h1, h2, h3, h4, h5, h6, h7⟩ := h
  unfold hdFields
  rw [h1, h2, h3, h4, h5, h6, h7]
theorem Hd.same.encE {x y : Hd} (h : x.same y) (txs : List (List UInt8)) : Wir.encE y txs = Wir.encE x txs := by
  have hf := h.fields
  obtain ⟨h1, h2, h3, _⟩ := h
  unfold Wir.encE numsOk form blkFields headerB
  rw [h1, h2, h3, hf]
/-- what is encoded is decoded alike -/
theorem decode_encode {x : Hd} {txs : List (List UInt8)} (hf : x.fits) (h : encE x txs = 0) : ∃ y, decode (form x txs) = .ok (y, txs) ∧ x.same y := by
  have h0 := h
  unfold encE at h
  split at h
  · cases h
  rename_i hn
  split at h
  · cases h
  rename_i ht
  split at h
  · cases h
  rename_i hl
  have hn2 : numsOk x = true := by simpa using hn
  unfold numsOk at hn2
  simp only [Bool.and_eq_true, decide_eq_true_eq] at hn2
  obtain ⟨y, hy, hs⟩ := hdOf_again hf ⟨by omega, by omega, by omega⟩
  have hsum : ∀ (l : List (List UInt8)) (t : List UInt8), t ∈ l → t.length ≤ (msg (l.map (bytF 2))).length := by
    intro l
    induction l with
    | nil => intro t ht; simp at ht
    | cons a l ih =>
      intro t ht
      rw [List.map_cons, msg_cons, List.length_append]
      rcases List.mem_cons.1 ht with rfl | ht
      · have : t.length ≤ (enc (bytF 2 t)).length := by unfold enc bytF; simp only [if_neg (show ¬ (2 : Int) = 0 by omega), List.length_append]; omega
        omega
      · have := ih t ht; omega
  have htx : ∀ t ∈ txs, t.length < 2 ^ 64 := fun t ht => by
    have h1 := hsum txs t ht
    have h2 : (form x txs).length = (enc (bytF 1 (headerB x))).length + (msg (txs.map (bytF 2))).length := by unfold form blkFields; rw [msg_cons, List.length_append]
    omega
  have hp : parse (form x txs) 0 = some (blkFields x txs) := parse_msg _ 0 (blkFields_okay hf htx) (by unfold blkFields; rw [List.length_cons, List.length_map]; omega)
  have hr : readH (headerB x) = some y := by
    unfold readH headerB
    rw [parse_msg (hdFields x) 0 (hdFields_okay hf) (by show 0 + 7 ≤ 1024; omega)]
    simp only []
    rw [if_pos (hdOf_fields x), hy]
  have hmap : (txs.map (bytF 2)).map Fld.bytes = txs := by rw [List.map_map]; exact (List.map_congr_left (fun _ _ => rfl)).trans (List.map_id _)
  have hall : (txs.map (bytF 2)).all (fun g => decide (g.num = 2) && decide (g.kind = 2)) = true := List.all_eq_true.2 fun g hg => by
    obtain ⟨z, _, rfl⟩ := List.mem_map.1 hg
    rfl
  refine ⟨y, ?_, hs⟩
  unfold decode
  rw [if_neg hl, hp]
  show (if (bytF 1 (headerB x)).num ≠ 1 ∨ (bytF 1 (headerB x)).kind ≠ 2 then _ else match readH (headerB x) with | none => _ | some z => _) = _
  rw [if_neg (by unfold bytF; simp), hr]
  simp only []
  rw [if_pos hall, hmap, (show Hd.same x y from hs).encE, h0]
  rfl
end Go.Proofs.Ytnhggaghidbniaa.Wir
