/- Bytes in memory; numbers written and read. -/
import Derived.Test.YtnhggaghidbniaaWirSpec
import Derived.Test.YtnhggaghidbniaaOnly
import Derived.Test.YtnhggaghidbniaaKeyEq
import Derived.Laws.Bits64b
namespace Go.Proofs.Ytnhggaghidbniaa
open Go.RowKit
set_option linter.unusedVariables false
set_option linter.unusedSimpArgs false
open Wir

def bytesL (b : List UInt8) : List Value := b.map (fun c => .int .u8 (c.toNat : Int))
theorem bytesL_len (b : List UInt8) : (bytesL b).length = b.length := by unfold bytesL; rw [List.length_map]
theorem bytesL_append (a b : List UInt8) : bytesL (a ++ b) = bytesL a ++ bytesL b := by unfold bytesL; rw [List.map_append]
theorem bytesL_one (b : List UInt8) : ∀ u ∈ bytesL b, u.oneCell' = true := by
  intro u hu
  obtain ⟨c, _, rfl⟩ := List.mem_map.1 hu
  rfl
theorem bytesL_get {b : List UInt8} {j : Nat} {c : UInt8} (h : b[j]? = some c) : (bytesL b)[j]? = some (.int .u8 (c.toNat : Int)) := by
  unfold bytesL; rw [List.getElem?_map, h]; rfl
theorem bytesOf_bytesL (n : Nat) (f : Nat → UInt8) : bytesOf n f = bytesL ((List.range n).map f) := by
  unfold bytesOf bytesL; rw [List.map_map]; rfl
theorem bytesL_of (b : List UInt8) : bytesL b = bytesOf b.length (fun j => b.getD j 0) := by
  refine List.ext_getElem? fun i => ?_
  rcases Nat.lt_or_ge i b.length with h | h
  · have e : b[i]? = some b[i] := List.getElem?_eq_getElem h
    rw [bytesL_get e, bytesOf_get _ h, List.getD_eq_getElem?_getD, e]
    rfl
  · rw [List.getElem?_eq_none (by rw [bytesL_len]; exact h), List.getElem?_eq_none (by rw [bytesOf_length]; exact h)]
/-- bytes that can be seen -/
def SeeB (w : World) (v : Value) (b : List UInt8) : Prop := ∃ A c, v = .slice A b.length c ∧ b.length ≤ c ∧ c ≤ 9223372036854775807 ∧ Reads w w.heap.size 1 A b.length (bytesL b)
/-- bytes of the call's own -/
def OwnB (w : World) (base : Nat) (v : Value) (b : List UInt8) : Prop := w.ownsRow base 5 1 v b.length (bytesL b)
theorem SeeB.below {w w' : World} {v : Value} {b : List UInt8} (h : SeeB w v b) (hb : Below w.heap.size w w') : SeeB w' v b := by
  obtain ⟨A, c, e, h1, h2, hr⟩ := h
  exact ⟨A, c, e, h1, h2, (hr.below hb).more hb.size⟩
theorem SeeB.oneCell {w : World} {v : Value} {b : List UInt8} (h : SeeB w v b) : v.oneCell' = true := by
  obtain ⟨A, c, rfl, _⟩ := h; rfl
theorem OwnB.see {w : World} {base : Nat} {v : Value} {b : List UInt8} (h : OwnB w base v b) : SeeB w v b := by
  have h' : w.ownsRow base 5 1 v b.length (bytesL b) := h
  rcases h'.2 with ⟨hv, h0⟩ | ⟨g, cap, cur, hv, hb, hg, hnc, hcm, hsz, htk⟩
  · have : b = [] := List.length_eq_zero_iff.1 h0
    subst this
    exact ⟨none, 0, hv, Nat.le_refl _, by omega, Reads.none_⟩
  · subst hv
    exact ⟨_, cap, rfl, hnc, hcm, Reads.of_own h'⟩
theorem OwnB.below {w w' : World} {base : Nat} {v : Value} {b : List UInt8} (h : OwnB w base v b) (hb : Below w.heap.size w w') : OwnB w' base v b := by
  have h' : w.ownsRow base 5 1 v b.length (bytesL b) := h
  refine h'.kept (below_grownBy hb none) ?_
  rcases hv : v.ownBlock with _ | g
  · exact .inl rfl
  · exact .inr (by simp)
theorem OwnB.nil (w : World) (base : Nat) : OwnB w base (.slice none 0 0) [] := World.ownsRow_nil _ _ _ _
theorem SeeB.nil (w : World) : SeeB w (.slice none 0 0) [] := (OwnB.nil w 0).see
theorem OwnB.less {w : World} {base base' : Nat} {v : Value} {b : List UInt8} (h : OwnB w base v b) (hb : base' ≤ base) : OwnB w base' v b := by
  have h' : w.ownsRow base 5 1 v b.length (bytesL b) := h
  refine ⟨h'.1, ?_⟩
  rcases h'.2 with h0 | ⟨g, cap, cur, hv, hg, hr⟩
  · exact .inl h0
  · exact .inr ⟨g, cap, cur, hv, Nat.le_trans hb hg, hr⟩
theorem u8_infoW : (Try.prog.info? 5).map (fun i => (i.zero, i.size, i.bytes)) = some (some (.int .u8 0), 1, 1) := by kernel_rfl
/-- append of a byte that the statement has just laid -/
theorem wpList_app_u8 {ops : Array Oper} {rest : List Oper} {o : Oper} {a : Act} {w : World} {Q : Exit → Act → World → Prop} (hgd : o.guard = none) (s x : Operand)
    (ho : o.op = .call { callee := .builtin .append, args := #[s, x], argTypes := #[33, 33] })
    (base : Nat) (v : Value) (b : List UInt8) (hs : a.eval s = v) (hown : OwnB w base v b) (c : UInt8)
    (hx : a.eval x = .slice (some ⟨w.heap.size, 0, none⟩) 1 1) (hn : b.length ≤ 140737488351232) (hbase : base ≤ w.heap.size)
    (h : ∀ v' w', OwnB w' base v' (b ++ [c]) → Below base w w' → w.grownBy w' v.ownBlock → wpList Try.prog ops Q rest (a.put o.dst v') w') :
    wpList Try.prog ops Q (o :: rest) a (w.alloc (.cells #[.int .u8 (c.toNat : Int)] 5)) := by
  obtain ⟨i0, hi0, hz0, hz1, hz2⟩ := info_parts u8_infoW
  have hown' : w.ownsRow base 5 1 v b.length (bytesL b) := hown
  refine app_own hgd s x _ ho base 5 i0 _ 1 1 Try.underlying33 hi0 hz0 hz1 hz2 rfl (by omega) v _ _ hs hown' [.int .u8 (c.toNat : Int)] _ hx rfl (fun u hu => by simp at hu; subst hu; rfl) (by omega) (by omega) hbase ?_
  intro v' w' h1 h2
  refine h v' w' ?_ ((Below.refl base w).grown h2 hbase (fun g e => (hown'.lt g e).1)) h2
  unfold OwnB
  rw [List.length_append, bytesL_append]
  exact h1
/-- append of bytes that can be seen -/
theorem wpList_app_bytes {ops : Array Oper} {rest : List Oper} {o : Oper} {a : Act} {w : World} {Q : Exit → Act → World → Prop} (hgd : o.guard = none) (s x : Operand)
    (ho : o.op = .call { callee := .builtin .append, args := #[s, x], argTypes := #[33, 33] })
    (base : Nat) (v : Value) (b : List UInt8) (hs : a.eval s = v) (hown : OwnB w base v b) (u : Value) (d : List UInt8) (hx : a.eval x = u) (hd : SeeB w u d)
    (hn : b.length + d.length ≤ 140737488351232) (hbase : base ≤ w.heap.size)
    (h : ∀ v' w', OwnB w' base v' (b ++ d) → Below base w w' → w.grownBy w' v.ownBlock → wpList Try.prog ops Q rest (a.put o.dst v') w') :
    wpList Try.prog ops Q (o :: rest) a w := by
  obtain ⟨i0, hi0, hz0, hz1, hz2⟩ := info_parts u8_infoW
  obtain ⟨A, c, rfl, _, _, hr⟩ := hd
  have hown' : w.ownsRow base 5 1 v b.length (bytesL b) := hown
  refine wpList_append_any _ hgd s x 33 ho base 5 i0 _ 1 1 Try.underlying33 hi0 hz0 hz1 hz2 rfl (by omega) v b.length (bytesL b) hs hown' w.heap.size A d.length c (bytesL d) hx hr (bytesL_one _) (by unfold maxLen; omega) (by omega) hbase ?_
  intro v' w' h1 h2 _
  refine h v' w' ?_ ((Below.refl base w).grown h2 hbase (fun g e => (hown'.lt g e).1)) h2
  unfold OwnB
  rw [List.length_append, bytesL_append]
  exact h1
theorem or128 (n : Nat) : bits .or .u8 ((n : Int) % 256) 128 = ((UInt8.ofNat (n % 128 + 128)).toNat : Int) := by
  rw [toNat_small (by omega)]
  have h : ∀ x : Fin 256, bits BinOp.or IntKind.u8 (x.val : Int) 128 = ((x.val % 128 + 128 : Nat) : Int) := by decide +kernel
  have := h ⟨n % 256, by omega⟩
  simp only at this
  rw [show (n : Int) % 256 = ((n % 256 : Nat) : Int) by omega, this]
  congr 1
  omega
theorem wrapLow {n : Nat} (h : n < 128) : (n : Int) % 256 = ((UInt8.ofNat n).toNat : Int) := by
  rw [toNat_small (by omega)]
  omega

theorem shr7 (m : Nat) : Int.fdiv (m : Int) (2 ^ min (Int.toNat 7) IntKind.u64.bits) = ((m / 128 : Nat) : Int) := by
  rw [show (2 : Int) ^ min (Int.toNat 7) IntKind.u64.bits = 128 by decide, Int.fdiv_eq_ediv_of_nonneg _ (by omega)]
  omega
/-- what writing a number leaves -/
def VApp (w : World) (b : List UInt8) (n : Nat) (e : Ending) (w' : World) : Prop := ∃ v', e = .returned v' ∧ Below w.heap.size w w' ∧ OwnB w' w.heap.size v' (b ++ vint n)

set_option maxRecDepth 100000 in
set_option maxHeartbeats 4000000 in
theorem vappend_any (w : World) (v : Value) (b : List UInt8) (hs : SeeB w v b) (hb : b.length ≤ 1099511627776) (n : Nat) (hn : n < 2 ^ 64) :
    Calls Try.prog 55 #[v, .int .u64 (n : Int)] w (VApp w b n) := by
  have HS := Lib.hid hs
  clear hs
  go_enter Try.func55, Try.ntmps55
  go_wp2_with (at_builtin
               refine wpList_app_bytes rfl (.const (.slice none 0 0)) (.tmp 6) rfl w.heap.size _ [] rfl (OwnB.nil _ _) _ b rfl HS.out (by simp; omega) (Nat.le_refl _) ?_
               intro v1 w1 ho1 hb1 hg1
               rw [List.nil_append] at ho1
               refine halted ?_)
  clear hg1
  change wpList _ _ _ _ _ _
  have HB1 := Lib.hid hb1
  have HO1 := Lib.hid ho1
  clear ho1 hb1
  go_wp2_with fail
  go_loopw [5, 1] (fun s i wr => ∃ (m : Nat) (p : List UInt8), i = .int .u64 (m : Int) ∧ p ++ vint m = b ++ vint n ∧ m < 2 ^ 64 ∧ Below w.heap.size w wr ∧ OwnB wr w.heap.size s p) (fun _ i _ => (intOf i).toNat)
  case atStart => exact ⟨n, b, rfl, rfl, hn, HB1.out, HO1.out⟩
  case round =>
    obtain ⟨m, p, rfl, hp, hm, hbr, hor⟩ := hrel
    have HBR := Lib.hid hbr
    have HOR := Lib.hid hor
    have HP := Lib.hid hp
    have hlen : p.length ≤ 1099511627776 + 10 := by
      have h1 := congrArg List.length hp
      rw [List.length_append, List.length_append] at h1
      have := vint_len 9 n (by have : (128 : Nat) ^ (9 + 1) = 1180591620717411303424 := by decide
                               omega)
      omega
    have hz := hbr.size
    clear hbr hor hp
    rcases Nat.lt_or_ge m 128 with hlt | hge
    · have t1 : ¬ (128 : Int) ≤ (m : Int) := by omega
      have hv := vint_lt hlt
      have HP2 : Hid (p ++ [UInt8.ofNat m] = b ++ vint n) := Lib.hid (by rw [← HP.out, hv])
      obtain ⟨c, hc⟩ : ∃ c, UInt8.ofNat m = c := ⟨_, rfl⟩
      have hcm : c.toNat = m := by rw [← hc, toNat_small (by omega)]
      rw [hc] at HP2
      clear hv hc HP
      subst hcm
      have g1 : ((c.toNat : Nat) : Int) % 256 = ((c.toNat : Nat) : Int) := by omega
      go_wp2_with (at_builtin
                   refine wpList_app_u8 rfl (.tmp 18) (.tmp 21) rfl w.heap.size _ p rfl HOR.out c rfl (by omega) hz ?_
                   intro v3 w3 ho3 hb3 hg3
                   have HO3 := Lib.hid ho3
                   have HB3 := Lib.hid (HBR.out.trans hb3)
                   clear ho3 hb3 hg3)
      go_ret
      rw [HP2.out] at HO3
      exact ⟨_, rfl, HB3.out, HO3.out⟩
    · have t1 : (128 : Int) ≤ (m : Int) := by omega
      have g1 := or128 m
      have hv := vint_ge hge
      have HP2 : Hid ((p ++ [UInt8.ofNat (m % 128 + 128)]) ++ vint (m / 128) = b ++ vint n) := Lib.hid (by rw [← HP.out, hv, List.append_assoc]; rfl)
      generalize UInt8.ofNat (m % 128 + 128) = c at g1 HP2
      have g2 : Int.fdiv (m : Int) (2 ^ min (Int.toNat 7) IntKind.u64.bits) = ((m / 128 : Nat) : Int) := shr7 m
      clear hv
      go_wp2_with (at_builtin
                   refine wpList_app_u8 rfl (.tmp 10) (.tmp 14) rfl w.heap.size _ p rfl HOR.out c rfl (by omega) hz ?_
                   intro v3 w3 ho3 hb3 hg3
                   have HO3 := Lib.hid ho3
                   have HB3 := Lib.hid (HBR.out.trans hb3)
                   clear ho3 hb3 hg3)
      go_roundw
      case rel => exact ⟨m / 128, p ++ [c], by go_num, HP2.out, by omega, HB3.out, HO3.out⟩
      case measure => simp [intOf]; omega

set_option maxRecDepth 100000 in
set_option maxHeartbeats 4000000 in
theorem rvarint_any (w : World) (v : Value) (b : List UInt8) (hs : SeeB w v b) (hb : b.length ≤ 1099511627776) (n : Nat) (hn : n < 2 ^ 64) :
    Calls Try.prog 46 #[v, .int .u64 (n : Int)] w (VApp w b n) := by
  have HS := Lib.hid hs
  clear hs
  go_enter Try.func46, Try.ntmps46
  go_wp2_with (at_builtin
               refine halted ?_)
  change wpList _ _ _ _ _ _
  have hown0 : OwnB (w.alloc (.cells #[] 5)) w.heap.size (.slice (some ⟨w.heap.size, 0, none⟩) 0 0) [] :=
    ⟨rfl, .inr ⟨w.heap.size, 0, #[], rfl, Nat.le_refl _, heap_alloc_new _ _, Nat.le_refl _, Nat.zero_le _, rfl, rfl⟩⟩
  have hbel : Below w.heap.size w (w.alloc (.cells #[] 5)) := (Below.refl _ _).alloc (Nat.le_refl _) _
  refine wpList_app_bytes rfl (.tmp 6) (.tmp 7) rfl w.heap.size _ [] rfl hown0 _ b rfl (HS.out.below hbel) (by simp; omega) hbel.size ?_
  intro v1 w1 ho1 hb1 hg1
  rw [List.nil_append] at ho1
  have hb1 := hbel.trans hb1
  clear hg1 hown0 hbel
  have HB1 := Lib.hid hb1
  have HO1 := Lib.hid ho1
  clear ho1 hb1
  go_wp2_with fail
  go_loopw [5, 1] (fun s i wr => ∃ (m : Nat) (p : List UInt8), i = .int .u64 (m : Int) ∧ p ++ vint m = b ++ vint n ∧ m < 2 ^ 64 ∧ Below w.heap.size w wr ∧ OwnB wr w.heap.size s p) (fun _ i _ => (intOf i).toNat)
  case atStart => exact ⟨n, b, rfl, rfl, hn, HB1.out, HO1.out⟩
  case round =>
    obtain ⟨m, p, rfl, hp, hm, hbr, hor⟩ := hrel
    have HBR := Lib.hid hbr
    have HOR := Lib.hid hor
    have HP := Lib.hid hp
    have hlen : p.length ≤ 1099511627776 + 10 := by
      have h1 := congrArg List.length hp
      rw [List.length_append, List.length_append] at h1
      have := vint_len 9 n (by have : (128 : Nat) ^ (9 + 1) = 1180591620717411303424 := by decide
                               omega)
      omega
    have hz := hbr.size
    clear hbr hor hp
    rcases Nat.lt_or_ge m 128 with hlt | hge
    · have t1 : ¬ (128 : Int) ≤ (m : Int) := by omega
      have hv := vint_lt hlt
      have HP2 : Hid (p ++ [UInt8.ofNat m] = b ++ vint n) := Lib.hid (by rw [← HP.out, hv])
      obtain ⟨c, hc⟩ : ∃ c, UInt8.ofNat m = c := ⟨_, rfl⟩
      have hcm : c.toNat = m := by rw [← hc, toNat_small (by omega)]
      rw [hc] at HP2
      clear hv hc HP
      subst hcm
      have g1 : ((c.toNat : Nat) : Int) % 256 = ((c.toNat : Nat) : Int) := by omega
      go_wp2_with (at_builtin
                   refine wpList_app_u8 rfl (.tmp 19) (.tmp 22) rfl w.heap.size _ p rfl HOR.out c rfl (by omega) hz ?_
                   intro v3 w3 ho3 hb3 hg3
                   have HO3 := Lib.hid ho3
                   have HB3 := Lib.hid (HBR.out.trans hb3)
                   clear ho3 hb3 hg3)
      go_ret
      rw [HP2.out] at HO3
      exact ⟨_, rfl, HB3.out, HO3.out⟩
    · have t1 : (128 : Int) ≤ (m : Int) := by omega
      have g1 := or128 m
      have hv := vint_ge hge
      have HP2 : Hid ((p ++ [UInt8.ofNat (m % 128 + 128)]) ++ vint (m / 128) = b ++ vint n) := Lib.hid (by rw [← HP.out, hv, List.append_assoc]; rfl)
      generalize UInt8.ofNat (m % 128 + 128) = c at g1 HP2
      have g2 : Int.fdiv (m : Int) (2 ^ min (Int.toNat 7) IntKind.u64.bits) = ((m / 128 : Nat) : Int) := shr7 m
      clear hv
      go_wp2_with (at_builtin
                   refine wpList_app_u8 rfl (.tmp 11) (.tmp 15) rfl w.heap.size _ p rfl HOR.out c rfl (by omega) hz ?_
                   intro v3 w3 ho3 hb3 hg3
                   have HO3 := Lib.hid ho3
                   have HB3 := Lib.hid (HBR.out.trans hb3)
                   clear ho3 hb3 hg3)
      go_roundw
      case rel => exact ⟨m / 128, p ++ [c], by go_num, HP2.out, by omega, HB3.out, HO3.out⟩
      case measure => simp [intOf]; omega

/-! ### reading -/
theorem SeeB.at_ {w : World} {A : Option Addr} {b : List UInt8} (h : Reads w w.heap.size 1 A b.length (bytesL b)) {j : Nat} {c : UInt8} (hc : b[j]? = some c) : ∃ ad, A = some ad ∧ w.cell? (ad.add j) = some (.int .u8 (c.toNat : Int)) := by
  obtain ⟨hlt, _⟩ := List.getElem?_eq_some_iff.1 hc
  obtain ⟨ad, u, h1, _, h2, h3⟩ := h.at_ hlt
  rw [bytesL_get hc] at h2
  injection h2 with h2
  subst h2
  exact ⟨ad, h1, h3⟩
theorem and127 (a : Nat) (ha : a < 256) : bits BinOp.and IntKind.u8 (a : Int) 127 = ((a % 128 : Nat) : Int) := by
  have h : ∀ n : Fin 256, bits BinOp.and IntKind.u8 (n.val : Int) 127 = ((n.val % 128 : Nat) : Int) := by decide +kernel
  exact h ⟨a, ha⟩
theorem orShl {n x i : Nat} (hn : n < 128 ^ i) (hi : i ≤ 9) (hx : x * 128 ^ i < 2 ^ 64) : bits .or .u64 (n : Int) (IntKind.u64.wrap ((x : Int) * 2 ^ (7 * i))) = ((n + x * 128 ^ i : Nat) : Int) := by
  have e2 : (2 : Int) ^ (7 * i) = ((128 ^ i : Nat) : Int) := by rw [Int.pow_mul]; simp
  have e3 : (2 : Nat) ^ (7 * i) = 128 ^ i := by rw [Nat.pow_mul]
  rw [e2, ← Int.natCast_mul, IntKind.wrap_u64]
  have e4 : ((x * 128 ^ i : Nat) : Int) % 18446744073709551616 = ((x * 128 ^ i : Nat) : Int) := by omega
  rw [e4, bits_or_u64_nat _ _ (by have : 128 ^ i ≤ 128 ^ 9 := Nat.pow_le_pow_right (by omega) hi; have h9 : (128 : Nat) ^ 9 = 9223372036854775808 := by decide
                                  omega) (by omega)]
  have h := Nat.two_pow_add_eq_or_of_lt (i := 7 * i) (b := n) (by rw [e3]; exact hn) x
  rw [e3] at h
  rw [Nat.or_comm, Nat.mul_comm x, ← h, Nat.add_comm]
/-- what reading a number leaves -/
def VRead (w : World) (r : VR) (e : Ending) (w' : World) : Prop := (match r with | .ok n s => e = .returned (.tuple #[.int .u64 (n : Int), .int .i64 (s : Int), .int .i64 0]) | .bad c => e = .returned (.tuple #[.int .u64 0, .int .i64 0, .int .i64 c])) ∧ w = w'
theorem rd_get {b : List UInt8} {i n : Nat} {c : UInt8} (h : b[i]? = some c) : rd (b.drop i) i n = if i = 9 ∧ 1 < c.toNat then .bad 6 else if 0 < i ∧ c.toNat = 0 then .bad 4 else if c.toNat < 128 then .ok (n + c.toNat % 128 * 128 ^ i) (i + 1) else rd (b.drop (i + 1)) (i + 1) (n + c.toNat % 128 * 128 ^ i) := by
  obtain ⟨hlt, e⟩ := List.getElem?_eq_some_iff.1 h
  rw [List.drop_eq_getElem_cons hlt, e]
  rfl
theorem rd_end {b : List UInt8} {i n : Nat} (h : b.length ≤ i) : rd (b.drop i) i n = .bad 5 := by rw [List.drop_of_length_le h]; rfl
theorem pow_next {n x i : Nat} (hn : n < 128 ^ i) (hx : x < 128) : n + x * 128 ^ i < 128 ^ (i + 1) := by
  rw [Nat.pow_succ, Nat.mul_comm (128 ^ i) 128]
  have : (x + 1) * 128 ^ i ≤ 128 * 128 ^ i := Nat.mul_le_mul_right _ (by omega)
  rw [Nat.add_mul, Nat.one_mul] at this
  omega

set_option maxRecDepth 100000 in
set_option maxHeartbeats 1000000 in
theorem vread_any (w : World) (v : Value) (b : List UInt8) (hs : SeeB w v b) :
    Calls Try.prog 57 #[v] w (VRead w (readV b)) := by
  obtain ⟨A, cp, rfl, hl1, hl2, hr⟩ := hs
  have HR := Lib.hid hr
  have hl63 : b.length ≤ 9223372036854775807 := by omega
  clear hr
  obtain ⟨len, hlen⟩ : ∃ len, b.length = len := ⟨_, rfl⟩
  rw [hlen] at hl63 ⊢
  have HLEN := Lib.hid hlen
  obtain ⟨R, hR⟩ : ∃ R, readV b = R := ⟨_, rfl⟩
  rw [hR]
  have HR0 : Hid (rd (b.drop 0) 0 0 = R) := Lib.hid hR
  clear hlen hl1 hR
  go_enter Try.func57, Try.ntmps57
  go_wp2_with fail
  go_loopw [2, 5] (fun s x wr => ∃ i n : Nat, s = .int .u64 (n : Int) ∧ x = .int .i64 (i : Int) ∧ n < 128 ^ i ∧ i ≤ 9 ∧ rd (b.drop i) i n = R ∧ w = wr) (fun _ x _ => 10 - (intOf x).toNat)
  case atStart => exact ⟨0, 0, rfl, rfl, by simp, by omega, HR0.out, rfl⟩
  case round =>
    obtain ⟨i, n, rfl, rfl, hn, hi, hrd, rfl⟩ := hrel
    have HN := Lib.hid hn
    have HRD := Lib.hid hrd
    clear hn hrd HR0
    rcases Nat.lt_or_ge i len with hlt | hge
    · have hx := List.getElem?_eq_getElem (l := b) (i := i) (by rw [HLEN.out]; exact hlt)
      obtain ⟨c, hc⟩ : ∃ c, b[i]'(by rw [HLEN.out]; exact hlt) = c := ⟨_, rfl⟩
      rw [hc] at hx
      obtain ⟨ad, rfl, hcell⟩ := SeeB.at_ HR.out hx
      have hgt := rd_get (n := n) hx
      rw [HRD.out] at hgt
      have hc256 := c.toNat_lt
      obtain ⟨a, ha⟩ : ∃ a, c.toNat = a := ⟨_, rfl⟩
      rw [ha] at hcell hgt hc256
      have HGT := Lib.hid hgt
      have t0 : ¬ (len : Int) ≤ (i : Int) := by omega
      have t00 : (i : Int) < (len : Int) := by omega
      have i0 : (0 : Int) ≤ (i : Int) := by omega
      have g7 : IntKind.i64.wrap (7 * (i : Int)) = 7 * (i : Int) := IntWalk.i64_in _ (by omega)
      have p7 : (0 : Int) ≤ 7 * (i : Int) := by omega
      have q7 : 7 * (i : Int) ≤ 64 := by omega
      have g1 : IntKind.i64.wrap ((i : Int) + 1) = (i : Int) + 1 := IntWalk.i64_in _ (by omega)
      have h127 := and127 a hc256
      have hm : IntKind.u64.wrap ((a % 128 : Nat) : Int) = ((a % 128 : Nat) : Int) := by rw [IntKind.wrap_u64]; omega
      clear hgt hc ha hx hlt HRD
      by_cases hA : i = 9 ∧ 1 < a
      · have t1 : ((i : Int) == 9) = true := beq_iff_eq.2 (by omega)
        have t2 : (1 : Int) < (a : Int) := by omega
        have hR := HGT.out
        rw [if_pos hA] at hR
        clear HGT HN hA
        go_wp2_with fail
        go_ret3
        subst hR
        exact ⟨rfl, rfl⟩
      by_cases hB : 0 < i ∧ a = 0
      · have hR := HGT.out
        rw [if_neg hA, if_pos hB] at hR
        have t3 : (0 : Int) < (i : Int) := by omega
        have t4 : ((a : Int) == 0) = true := beq_iff_eq.2 (by omega)
        have t5 : ¬ (1 : Int) < (a : Int) := by omega
        by_cases h9 : i = 9
        · have t6 : ((i : Int) == 9) = true := beq_iff_eq.2 (by omega)
          clear h9 HGT HN hA hB
          go_wp2_with fail
          go_ret3
          subst hR
          exact ⟨rfl, rfl⟩
        · have t6 : ¬ (i : Int) = 9 := by omega
          clear h9 HGT HN hA hB
          go_wp2_with fail
          go_ret3
          subst hR
          exact ⟨rfl, rfl⟩
      have hR := HGT.out
      rw [if_neg hA, if_neg hB] at hR
      have hx64 : a % 128 * 128 ^ i < 2 ^ 64 := by
        have h9 : (128 : Nat) ^ 9 = 9223372036854775808 := by decide
        rcases Nat.lt_or_ge i 9 with h | h
        · have h1 : (a % 128 + 1) * 128 ^ i ≤ 128 * 128 ^ i := Nat.mul_le_mul_right _ (by omega)
          have h2 : 128 ^ (i + 1) ≤ 128 ^ 9 := Nat.pow_le_pow_right (by omega) (by omega)
          rw [Nat.pow_succ, Nat.mul_comm] at h2
          rw [Nat.add_mul] at h1
          omega
        · obtain rfl : i = 9 := by omega
          have : a ≤ 1 := by
            rcases Nat.lt_or_ge 1 a with h | h
            · exact absurd ⟨rfl, h⟩ hA
            · exact h
          have h3 : a % 128 * 128 ^ 9 ≤ 1 * 128 ^ 9 := Nat.mul_le_mul_right _ (by omega)
          omega
      have hor := orShl (n := n) (x := a % 128) HN.out hi hx64
      have hlt1 := pow_next (x := a % 128) HN.out (by omega)
      obtain ⟨n2, hn2⟩ : ∃ n2, n + a % 128 * 128 ^ i = n2 := ⟨_, rfl⟩
      rw [hn2] at hR hor hlt1
      obtain ⟨q, hq⟩ : ∃ q, a % 128 = q := ⟨_, rfl⟩
      rw [hq] at h127 hm hor
      have HLT1 := Lib.hid hlt1
      have HRR := Lib.hid hR
      clear HGT HN hn2 hx64 hlt1 hR hq
      have cases1 : (i = 0) ∨ (0 < i ∧ i < 9 ∧ a ≠ 0) ∨ (i = 9 ∧ a = 1) := by omega
      clear hA hB
      rcases Nat.lt_or_ge a 128 with h128 | h128
      · have t5 : (a : Int) < 128 := by omega
        have hR2 := HRR.out
        rw [if_pos h128] at hR2
        clear HRR
        rcases cases1 with hc1 | hc1 | hc1
        · have u1 : ¬ (i : Int) = 9 := by omega
          have u2 : ¬ (0 : Int) < (i : Int) := by omega
          clear hc1
          go_wp2_with fail
          go_ret3
          subst hR2
          exact ⟨by first | rfl | (simp; done), rfl⟩
        · have u1 : ¬ (i : Int) = 9 := by omega
          have u2 : (0 : Int) < (i : Int) := by omega
          have u3 : ¬ (a : Int) = 0 := by omega
          clear hc1
          go_wp2_with fail
          go_ret3
          subst hR2
          exact ⟨by first | rfl | (simp; done), rfl⟩
        · have u1 : ((i : Int) == 9) = true := beq_iff_eq.2 (by omega)
          have u2 : (0 : Int) < (i : Int) := by omega
          have u3 : ¬ (a : Int) = 0 := by omega
          have u4 : ¬ (1 : Int) < (a : Int) := by omega
          clear hc1
          go_wp2_with fail
          go_ret3
          subst hR2
          exact ⟨by first | rfl | (simp; done), rfl⟩
      · have t5 : ¬ (a : Int) < 128 := by omega
        have hR2 := HRR.out
        rw [if_neg (by omega)] at hR2
        have HR2 := Lib.hid hR2
        clear HRR hR2
        rcases cases1 with hc1 | hc1 | hc1
        · have u1 : ¬ (i : Int) = 9 := by omega
          have u2 : ¬ (0 : Int) < (i : Int) := by omega
          clear hc1
          go_wp2_with fail
          go_roundw
          case rel => exact ⟨i + 1, n2, rfl, by go_num, HLT1.out, by omega, HR2.out.symm, by first | rfl | trivial⟩
          case measure => simp [intOf]; omega
        · have u1 : ¬ (i : Int) = 9 := by omega
          have u2 : (0 : Int) < (i : Int) := by omega
          have u3 : ¬ (a : Int) = 0 := by omega
          clear hc1
          go_wp2_with fail
          go_roundw
          case rel => exact ⟨i + 1, n2, rfl, by go_num, HLT1.out, by omega, HR2.out.symm, by first | rfl | trivial⟩
          case measure => simp [intOf]; omega
        · omega
    · have t0 : (len : Int) ≤ (i : Int) := by omega
      have hR := HRD.out
      rw [rd_end (by rw [HLEN.out]; exact hge)] at hR
      clear HRD HN
      go_wp2_with fail
      go_ret3
      subst hR
      exact ⟨rfl, rfl⟩

set_option maxRecDepth 100000 in
set_option maxHeartbeats 1000000 in
theorem rread_any (w : World) (v : Value) (b : List UInt8) (hs : SeeB w v b) :
    Calls Try.prog 44 #[v] w (VRead w (readV b)) := by
  obtain ⟨A, cp, rfl, hl1, hl2, hr⟩ := hs
  have HR := Lib.hid hr
  have hl63 : b.length ≤ 9223372036854775807 := by omega
  clear hr
  obtain ⟨len, hlen⟩ : ∃ len, b.length = len := ⟨_, rfl⟩
  rw [hlen] at hl63 ⊢
  have HLEN := Lib.hid hlen
  obtain ⟨R, hR⟩ : ∃ R, readV b = R := ⟨_, rfl⟩
  rw [hR]
  have HR0 : Hid (rd (b.drop 0) 0 0 = R) := Lib.hid hR
  clear hlen hl1 hR
  go_enter Try.func44, Try.ntmps44
  go_wp2_with fail
  go_loopw [5, 6] (fun s x wr => ∃ i n : Nat, s = .int .u64 (n : Int) ∧ x = .int .i64 (i : Int) ∧ n < 128 ^ i ∧ i ≤ 9 ∧ rd (b.drop i) i n = R ∧ w = wr) (fun _ x _ => 10 - (intOf x).toNat)
  case atStart => exact ⟨0, 0, rfl, rfl, by simp, by omega, HR0.out, rfl⟩
  case round =>
    obtain ⟨i, n, rfl, rfl, hn, hi, hrd, rfl⟩ := hrel
    have HN := Lib.hid hn
    have HRD := Lib.hid hrd
    clear hn hrd HR0
    rcases Nat.lt_or_ge i len with hlt | hge
    · have hx := List.getElem?_eq_getElem (l := b) (i := i) (by rw [HLEN.out]; exact hlt)
      obtain ⟨c, hc⟩ : ∃ c, b[i]'(by rw [HLEN.out]; exact hlt) = c := ⟨_, rfl⟩
      rw [hc] at hx
      obtain ⟨ad, rfl, hcell⟩ := SeeB.at_ HR.out hx
      have hgt := rd_get (n := n) hx
      rw [HRD.out] at hgt
      have hc256 := c.toNat_lt
      obtain ⟨a, ha⟩ : ∃ a, c.toNat = a := ⟨_, rfl⟩
      rw [ha] at hcell hgt hc256
      have HGT := Lib.hid hgt
      have t0 : ¬ (len : Int) ≤ (i : Int) := by omega
      have t00 : (i : Int) < (len : Int) := by omega
      have i0 : (0 : Int) ≤ (i : Int) := by omega
      have g7 : IntKind.i64.wrap (7 * (i : Int)) = 7 * (i : Int) := IntWalk.i64_in _ (by omega)
      have p7 : (0 : Int) ≤ 7 * (i : Int) := by omega
      have q7 : 7 * (i : Int) ≤ 64 := by omega
      have g1 : IntKind.i64.wrap ((i : Int) + 1) = (i : Int) + 1 := IntWalk.i64_in _ (by omega)
      have h127 := and127 a hc256
      have hm : IntKind.u64.wrap ((a % 128 : Nat) : Int) = ((a % 128 : Nat) : Int) := by rw [IntKind.wrap_u64]; omega
      clear hgt hc ha hx hlt HRD
      by_cases hA : i = 9 ∧ 1 < a
      · have t1 : ((i : Int) == 9) = true := beq_iff_eq.2 (by omega)
        have t2 : (1 : Int) < (a : Int) := by omega
        have hR := HGT.out
        rw [if_pos hA] at hR
        clear HGT HN hA
        go_wp2_with fail
        go_ret3
        subst hR
        exact ⟨rfl, rfl⟩
      by_cases hB : 0 < i ∧ a = 0
      · have hR := HGT.out
        rw [if_neg hA, if_pos hB] at hR
        have t3 : (0 : Int) < (i : Int) := by omega
        have t4 : ((a : Int) == 0) = true := beq_iff_eq.2 (by omega)
        have t5 : ¬ (1 : Int) < (a : Int) := by omega
        by_cases h9 : i = 9
        · have t6 : ((i : Int) == 9) = true := beq_iff_eq.2 (by omega)
          clear h9 HGT HN hA hB
          go_wp2_with fail
          go_ret3
          subst hR
          exact ⟨rfl, rfl⟩
        · have t6 : ¬ (i : Int) = 9 := by omega
          clear h9 HGT HN hA hB
          go_wp2_with fail
          go_ret3
          subst hR
          exact ⟨rfl, rfl⟩
      have hR := HGT.out
      rw [if_neg hA, if_neg hB] at hR
      have hx64 : a % 128 * 128 ^ i < 2 ^ 64 := by
        have h9 : (128 : Nat) ^ 9 = 9223372036854775808 := by decide
        rcases Nat.lt_or_ge i 9 with h | h
        · have h1 : (a % 128 + 1) * 128 ^ i ≤ 128 * 128 ^ i := Nat.mul_le_mul_right _ (by omega)
          have h2 : 128 ^ (i + 1) ≤ 128 ^ 9 := Nat.pow_le_pow_right (by omega) (by omega)
          rw [Nat.pow_succ, Nat.mul_comm] at h2
          rw [Nat.add_mul] at h1
          omega
        · obtain rfl : i = 9 := by omega
          have : a ≤ 1 := by
            rcases Nat.lt_or_ge 1 a with h | h
            · exact absurd ⟨rfl, h⟩ hA
            · exact h
          have h3 : a % 128 * 128 ^ 9 ≤ 1 * 128 ^ 9 := Nat.mul_le_mul_right _ (by omega)
          omega
      have hor := orShl (n := n) (x := a % 128) HN.out hi hx64
      have hlt1 := pow_next (x := a % 128) HN.out (by omega)
      obtain ⟨n2, hn2⟩ : ∃ n2, n + a % 128 * 128 ^ i = n2 := ⟨_, rfl⟩
      rw [hn2] at hR hor hlt1
      obtain ⟨q, hq⟩ : ∃ q, a % 128 = q := ⟨_, rfl⟩
      rw [hq] at h127 hm hor
      have HLT1 := Lib.hid hlt1
      have HRR := Lib.hid hR
      clear HGT HN hn2 hx64 hlt1 hR hq
      have cases1 : (i = 0) ∨ (0 < i ∧ i < 9 ∧ a ≠ 0) ∨ (i = 9 ∧ a = 1) := by omega
      clear hA hB
      rcases Nat.lt_or_ge a 128 with h128 | h128
      · have t5 : (a : Int) < 128 := by omega
        have hR2 := HRR.out
        rw [if_pos h128] at hR2
        clear HRR
        rcases cases1 with hc1 | hc1 | hc1
        · have u1 : ¬ (i : Int) = 9 := by omega
          have u2 : ¬ (0 : Int) < (i : Int) := by omega
          clear hc1
          go_wp2_with fail
          go_ret3
          subst hR2
          exact ⟨by first | rfl | (simp; done), rfl⟩
        · have u1 : ¬ (i : Int) = 9 := by omega
          have u2 : (0 : Int) < (i : Int) := by omega
          have u3 : ¬ (a : Int) = 0 := by omega
          clear hc1
          go_wp2_with fail
          go_ret3
          subst hR2
          exact ⟨by first | rfl | (simp; done), rfl⟩
        · have u1 : ((i : Int) == 9) = true := beq_iff_eq.2 (by omega)
          have u2 : (0 : Int) < (i : Int) := by omega
          have u3 : ¬ (a : Int) = 0 := by omega
          have u4 : ¬ (1 : Int) < (a : Int) := by omega
          clear hc1
          go_wp2_with fail
          go_ret3
          subst hR2
          exact ⟨by first | rfl | (simp; done), rfl⟩
      · have t5 : ¬ (a : Int) < 128 := by omega
        have hR2 := HRR.out
        rw [if_neg (by omega)] at hR2
        have HR2 := Lib.hid hR2
        clear HRR hR2
        rcases cases1 with hc1 | hc1 | hc1
        · have u1 : ¬ (i : Int) = 9 := by omega
          have u2 : ¬ (0 : Int) < (i : Int) := by omega
          clear hc1
          go_wp2_with fail
          go_roundw
          case rel => exact ⟨i + 1, n2, rfl, by go_num, HLT1.out, by omega, HR2.out.symm, by first | rfl | trivial⟩
          case measure => simp [intOf]; omega
        · have u1 : ¬ (i : Int) = 9 := by omega
          have u2 : (0 : Int) < (i : Int) := by omega
          have u3 : ¬ (a : Int) = 0 := by omega
          clear hc1
          go_wp2_with fail
          go_roundw
          case rel => exact ⟨i + 1, n2, rfl, by go_num, HLT1.out, by omega, HR2.out.symm, by first | rfl | trivial⟩
          case measure => simp [intOf]; omega
        · omega
    · have t0 : (len : Int) ≤ (i : Int) := by omega
      have hR := HRD.out
      rw [rd_end (by rw [HLEN.out]; exact hge)] at hR
      clear HRD HN
      go_wp2_with fail
      go_ret3
      subst hR
      exact ⟨rfl, rfl⟩
end Go.Proofs.Ytnhggaghidbniaa
