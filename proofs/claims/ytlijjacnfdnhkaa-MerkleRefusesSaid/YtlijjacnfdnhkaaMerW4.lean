/- Proof, of the program and of the reference. -/
import Derived.Test.YtlijjacnfdnhkaaMerW3
namespace Go.Proofs.Ytlijjacnfdnhkaa
open Go.RowKit
set_option linter.unusedVariables false
open ShaW Sha

theorem key_info : (Try.prog.info? 24).map (fun i => (i.zero, i.size, i.bytes)) = some (some (.agg (Array.replicate 32 (.int .u8 0))), 32, 32) := by kernel_rfl
/-- the cells of some keys -/
def keysOf (p : List Ky) : List Value := p.flatMap (fun k => bytesOf 32 k)
theorem keysOf_append (p q : List Ky) : keysOf (p ++ q) = keysOf p ++ keysOf q := by unfold keysOf; rw [List.flatMap_append]
theorem keysOf_one (k : Ky) : keysOf [k] = bytesOf 32 k := by unfold keysOf; simp
theorem keysOf_len (p : List Ky) : (keysOf p).length = p.length * 32 := by
  induction p with
  | nil => rfl
  | cons k p ih =>
    show (bytesOf 32 k ++ keysOf p).length = _
    rw [List.length_append, ih, bytesOf_length, List.length_cons]
    omega
theorem keysOf_oneCell (p : List Ky) : ∀ u ∈ keysOf p, u.oneCell' = true := by
  intro u hu
  obtain ⟨k, _, hk⟩ := List.mem_flatMap.1 hu
  exact bytesOf_one _ _ u hk
theorem owns_below2 {w w' : World} {base : Nat} {e : TypeId} {size n : Nat} {v : Value} {xs : List Value} (h : w.ownsRow base e size v n xs) (hb : Below w.heap.size w w') : w'.ownsRow base e size v n xs := owns_below h hb
/-- one key, laid to be appended -/
theorem key_reads (w : World) (k : Ky) : Reads (w.alloc (.cells (bytesOf 32 k).toArray 24)) (w.alloc (.cells (bytesOf 32 k).toArray 24)).heap.size 32 (some ⟨w.heap.size, 0, none⟩) 1 (keysOf [k]) := by
  rw [keysOf_one]
  refine ⟨by rw [bytesOf_length], fun _ => ⟨⟨w.heap.size, 0, none⟩, rfl, by rw [World.size_alloc]; exact Nat.lt_succ_self _, fun j u hu => ?_⟩⟩
  rw [add_flat, Nat.zero_add, lit_cell]
  exact List.getElem?_toArray.trans hu
/-- a list literal of one key -/
theorem key_fill (k : Ky) (ie : TypeInfo) (hs : ie.size = 32) : Instr.fill (fun i => some (i * ie.size, ie.size)) ((Array.range (1 * ie.size)).map ((Value.agg (Array.replicate 32 (.int .u8 0))).cells[· % (Value.agg (Array.replicate 32 (.int .u8 0))).cells.size]!)) [(0, .agg (bytesOf 32 k).toArray)] = some (bytesOf 32 k).toArray := by
  rw [hs]
  kernel_rfl
/-- what Proof returns for a leaf -/
def PathPost (w w' : World) (p : List Ky) (e : Ending) : Prop :=
  ∃ A' c', e = .returned (.tuple #[.slice A' p.length c', .bool true]) ∧ Below w.heap.size w w' ∧ w'.ownsRow w.heap.size 24 32 (.slice A' p.length c') p.length (keysOf p)

set_option maxRecDepth 100000 in
set_option maxHeartbeats 600000 in
theorem mproof_any : ∀ (n : Nat), n ≤ 1073741823 → ∀ (w : World) (A : Option Addr) (c : Nat) (L : Nat → Nat) (F : Nat → Nat → UInt8) (i : Nat), RowsAt w A n c L F → i < n →
    Calls Try.prog 16 #[.slice A n c, .int .i64 (i : Int)] w fun e w' => PathPost w w' (pathK n i L F) e := by
  intro n
  induction n using Nat.strongRecOn with
  | _ n ih =>
  intro hn w A c L F i hrows hi
  obtain ⟨i0, hi0, hz0, hz1, hz2⟩ := info_parts key_info
  obtain ⟨pp, hpp⟩ : ∃ pp, pathK n i L F = pp := ⟨_, rfl⟩
  rw [hpp]
  have HPP := Lib.hid hpp
  have HIH := Lib.hid ih
  have HRW := Lib.hid hrows
  have hnc : n ≤ c := hrows.1
  have hcm : c ≤ 9223372036854775807 := hrows.2.1
  obtain ⟨_, _, b, o, hA, _⟩ := id hrows
  obtain rfl := hA (by omega)
  clear hpp ih hrows hA
  have q0 : ¬ (n : Int) ≤ i := by omega
  go_enter Try.func16, Try.ntmps16
  by_cases h1 : n = 1
  · subst h1
    obtain rfl : i = 0 := by omega
    have hp0 : Hid (pp = []) := by show _ = _; rw [← HPP.out, pathK_one (by omega)]
    go_wp2_with fail
    go_ret2
    rw [hp0.out]
    exact ⟨_, _, rfl, Below.refl _ _, World.ownsRow_nil _ _ _ _⟩
  · have h2 : 2 ≤ n := by omega
    have e1 : ((n : Int) == 1) = false := by simp; omega
    have hh := halfN_lt h2
    have hp := halfN_pos n
    have hhalf := fun w => mhalf_any w n h2 (by omega)
    have hleft := fun hi => pathK_left (n := n) (i := i) h2 hi L F
    have hright := fun hi => pathK_right (n := n) (i := i) h2 hi L F
    obtain ⟨k, hk⟩ : ∃ k, halfN n = k := ⟨_, rfl⟩
    rw [hk] at hh hp hhalf hleft hright
    have HHALF := Lib.hid hhalf
    have HLEFT := Lib.hid hleft
    have HRIGHT := Lib.hid hright
    have q1 : (k : Int) ≤ n := by omega
    have q2 : (k : Int) ≤ c := by omega
    have q3 : ¬ c = k := by omega
    clear hk hhalf hleft hright
    by_cases hik : i < k
    · have hik' : (i : Int) < k := by omega
      go_wp2_with fail
      refine (HHALF.out _).mono ?_
      rintro e w' ⟨rfl, rfl⟩
      go_wp2_with fail
      refine (HIH.out k (by omega) (by omega) w' _ c L F i (HRW.out.take (by omega)) hik).mono ?_
      rintro e w1 ⟨A1, c1, rfl, hb1, ho1⟩
      have hz1' := hb1.size
      have HR1 := Lib.hid ((HRW.out.below hb1).drop (k := k) (by omega))
      have HB1 := Lib.hid hb1
      have HO1 := Lib.hid ho1
      clear hb1 ho1
      go_wp2_with fail
      refine (mroot_any (n - k) (by omega) _ _ _ _ _ HR1.out).mono ?_
      rintro e w2 ⟨rfl, hb2⟩
      obtain ⟨kq, hkq⟩ : ∃ kq, rootK (n - k) (fun r => L (k + r)) (fun r => F (k + r)) = kq := ⟨_, rfl⟩
      rw [hkq]
      obtain ⟨pl, hpl⟩ : ∃ pl, pathK k i L F = pl := ⟨_, rfl⟩
      rw [hpl] at HO1 ⊢
      have hfin : Hid (pp = pl ++ [kq]) := by show _ = _; rw [← HPP.out, HLEFT.out hik, hpl, hkq]
      have hlen : pl.length ≤ k := by rw [← hpl]; exact pathK_len _ _ _ _
      have hz2' := hb2.size
      have HB2 := Lib.hid ((HB1.out.trans (hb2.mono hz1')).alloc (by omega) (.cells (bytesOf 32 kq).toArray 24))
      have HO2 := Lib.hid (owns_below HO1.out (hb2.alloc hz2' (.cells (bytesOf 32 kq).toArray 24)))
      have HKR := Lib.hid (key_reads w2 kq)
      clear hb2 hkq hpl HB1 HO1 HR1
      go_wp2_with (first
        | (refine wpList_buildSlice rfl 35 24 1 _ rfl (bytesOf 32 kq).toArray i0 _ Try.underlying35 hi0 hz0 (by rw [hz1]; omega) (by rw [hz1]; omega) (by simp only [List.map_toArray, List.map_cons, List.map_nil]; exact key_fill kq i0 hz1) ?_)
        | (at_builtin
           refine wpList_append_any _ rfl (.tmp 36) (.tmp 41) _ rfl w'.heap.size 24 i0 _ 32 32 Try.underlying35 hi0 hz0 hz1 hz2 rfl (by omega) _ pl.length _ rfl
             HO2.out _ _ 1 1 _ rfl HKR.out (keysOf_oneCell _) (by unfold maxLen; omega) (by omega) (by rw [World.size_alloc]; omega) ?_
           intro v3 w3 ho3 hg3 hat3
           rw [← keysOf_append] at ho3
           have hb3 : Below w'.heap.size w' w3 := HB2.out.grown hg3 (by rw [World.size_alloc]; omega) (fun g e => (HO2.out.lt g e).1)
           obtain ⟨A3, c3, rfl⟩ := own_form ho3
           have HO3 := Lib.hid ho3
           have HB3 := Lib.hid hb3
           clear ho3 hg3 hat3 hb3))
      go_ret2
      rw [hfin.out]
      exact ⟨A3, c3, by simp, HB3.out, by simpa using HO3.out⟩
    · have hik' : ¬ (i : Int) < k := by omega
      have q4 : IntKind.i64.wrap ((i : Int) - k) = ((i - k : Nat) : Int) := by rw [IntWalk.i64_in _ (by omega)]; omega
      have e4 : (i : Int) - k = ((i - k : Nat) : Int) := by omega
      obtain ⟨j, hj⟩ : ∃ j, i - k = j := ⟨_, rfl⟩
      rw [hj] at q4 e4
      have hjn : j < n - k := by omega
      have E4 := Lib.hid e4
      clear e4
      go_wp2_with fail
      refine (HHALF.out _).mono ?_
      rintro e w' ⟨rfl, rfl⟩
      go_wp2_with fail
      first
        | refine (HIH.out (n - k) (by omega) (by omega) w' _ (c - k) _ _ j (HRW.out.drop (by omega)) hjn).mono ?_
        | (rw [E4.out]; refine (HIH.out (n - k) (by omega) (by omega) w' _ (c - k) _ _ j (HRW.out.drop (by omega)) hjn).mono ?_)
      rintro e w1 ⟨A1, c1, rfl, hb1, ho1⟩
      have hz1' := hb1.size
      have HR1 := Lib.hid ((HRW.out.below hb1).take (k := k) (by omega))
      have HB1 := Lib.hid hb1
      have HO1 := Lib.hid ho1
      clear hb1 ho1
      go_wp2_with fail
      refine (mroot_any k (by omega) _ _ _ _ _ HR1.out).mono ?_
      rintro e w2 ⟨rfl, hb2⟩
      obtain ⟨kq, hkq⟩ : ∃ kq, rootK k L F = kq := ⟨_, rfl⟩
      rw [hkq]
      obtain ⟨pl, hpl⟩ : ∃ pl, pathK (n - k) j (fun r => L (k + r)) (fun r => F (k + r)) = pl := ⟨_, rfl⟩
      rw [hpl] at HO1 ⊢
      have hfin : Hid (pp = pl ++ [kq]) := by show _ = _; rw [← HPP.out, HRIGHT.out hik, hj, hpl, hkq]
      have hlen : pl.length ≤ n - k := by rw [← hpl]; exact pathK_len _ _ _ _
      have hz2' := hb2.size
      have HB2 := Lib.hid ((HB1.out.trans (hb2.mono hz1')).alloc (by omega) (.cells (bytesOf 32 kq).toArray 24))
      have HO2 := Lib.hid (owns_below HO1.out (hb2.alloc hz2' (.cells (bytesOf 32 kq).toArray 24)))
      have HKR := Lib.hid (key_reads w2 kq)
      clear hb2 hkq hpl HB1 HO1 HR1
      go_wp2_with (first
        | (refine wpList_buildSlice rfl 35 24 1 _ rfl (bytesOf 32 kq).toArray i0 _ Try.underlying35 hi0 hz0 (by rw [hz1]; omega) (by rw [hz1]; omega) (by simp only [List.map_toArray, List.map_cons, List.map_nil]; exact key_fill kq i0 hz1) ?_)
        | (at_builtin
           refine wpList_append_any _ rfl (.tmp 53) (.tmp 58) _ rfl w'.heap.size 24 i0 _ 32 32 Try.underlying35 hi0 hz0 hz1 hz2 rfl (by omega) _ pl.length _ rfl
             HO2.out _ _ 1 1 _ rfl HKR.out (keysOf_oneCell _) (by unfold maxLen; omega) (by omega) (by rw [World.size_alloc]; omega) ?_
           intro v3 w3 ho3 hg3 hat3
           rw [← keysOf_append] at ho3
           have hb3 : Below w'.heap.size w' w3 := HB2.out.grown hg3 (by rw [World.size_alloc]; omega) (fun g e => (HO2.out.lt g e).1)
           obtain ⟨A3, c3, rfl⟩ := own_form ho3
           have HO3 := Lib.hid ho3
           have HB3 := Lib.hid hb3
           clear ho3 hg3 hat3 hb3))
      go_ret2
      rw [hfin.out]
      exact ⟨A3, c3, by simp, HB3.out, by simpa using HO3.out⟩

set_option maxRecDepth 100000 in
theorem mproof_out (w : World) (A : Option Addr) (n c : Nat) (i : Int) (h : i < 0 ∨ (n : Int) ≤ i) :
    Calls Try.prog 16 #[.slice A n c, .int .i64 i] w fun e w' => e = .returned (.tuple #[.slice none 0 0, .bool false]) ∧ w = w' := by
  by_cases h0 : i < 0
  · go_enter Try.func16, Try.ntmps16
    go_wp2_with fail
    go_ret2
    exact ⟨rfl, rfl⟩
  · have h1 : (n : Int) ≤ i := by omega
    go_enter Try.func16, Try.ntmps16
    go_wp2_with fail
    go_ret2
    exact ⟨rfl, rfl⟩

set_option maxRecDepth 100000 in
set_option maxHeartbeats 600000 in
theorem rproof_any : ∀ (n : Nat), n ≤ 1073741823 → ∀ (w : World) (A : Option Addr) (c : Nat) (L : Nat → Nat) (F : Nat → Nat → UInt8) (i : Nat), RowsAt w A n c L F → i < n →
    Calls Try.prog 17 #[.slice A n c, .int .i64 (i : Int)] w fun e w' => PathPost w w' (pathK n i L F) e := by
  intro n
  induction n using Nat.strongRecOn with
  | _ n ih =>
  intro hn w A c L F i hrows hi
  obtain ⟨i0, hi0, hz0, hz1, hz2⟩ := info_parts key_info
  obtain ⟨pp, hpp⟩ : ∃ pp, pathK n i L F = pp := ⟨_, rfl⟩
  rw [hpp]
  have HPP := Lib.hid hpp
  have HIH := Lib.hid ih
  have HRW := Lib.hid hrows
  have hnc : n ≤ c := hrows.1
  have hcm : c ≤ 9223372036854775807 := hrows.2.1
  obtain ⟨_, _, b, o, hA, _⟩ := id hrows
  obtain rfl := hA (by omega)
  clear hpp ih hrows hA
  have q0 : ¬ (n : Int) ≤ i := by omega
  go_enter Try.func17, Try.ntmps17
  by_cases h1 : n = 1
  · subst h1
    obtain rfl : i = 0 := by omega
    have hp0 : Hid (pp = []) := by show _ = _; rw [← HPP.out, pathK_one (by omega)]
    go_wp2_with fail
    go_ret2
    rw [hp0.out]
    exact ⟨_, _, rfl, Below.refl _ _, World.ownsRow_nil _ _ _ _⟩
  · have h2 : 2 ≤ n := by omega
    have e1 : ((n : Int) == 1) = false := by simp; omega
    have hh := halfN_lt h2
    have hp := halfN_pos n
    have hhalf := fun w => rhalf_any w n h2 (by omega)
    have hleft := fun hi => pathK_left (n := n) (i := i) h2 hi L F
    have hright := fun hi => pathK_right (n := n) (i := i) h2 hi L F
    obtain ⟨k, hk⟩ : ∃ k, halfN n = k := ⟨_, rfl⟩
    rw [hk] at hh hp hhalf hleft hright
    have HHALF := Lib.hid hhalf
    have HLEFT := Lib.hid hleft
    have HRIGHT := Lib.hid hright
    have q1 : (k : Int) ≤ n := by omega
    have q2 : (k : Int) ≤ c := by omega
    have q3 : ¬ c = k := by omega
    clear hk hhalf hleft hright
    by_cases hik : i < k
    · have hik' : (i : Int) < k := by omega
      go_wp2_with fail
      refine (HHALF.out _).mono ?_
      rintro e w' ⟨rfl, rfl⟩
      go_wp2_with fail
      refine (HIH.out k (by omega) (by omega) w' _ c L F i (HRW.out.take (by omega)) hik).mono ?_
      rintro e w1 ⟨A1, c1, rfl, hb1, ho1⟩
      have hz1' := hb1.size
      have HR1 := Lib.hid ((HRW.out.below hb1).drop (k := k) (by omega))
      have HB1 := Lib.hid hb1
      have HO1 := Lib.hid ho1
      clear hb1 ho1
      go_wp2_with fail
      refine (rroot_any (n - k) (by omega) _ _ _ _ _ HR1.out).mono ?_
      rintro e w2 ⟨rfl, hb2⟩
      obtain ⟨kq, hkq⟩ : ∃ kq, rootK (n - k) (fun r => L (k + r)) (fun r => F (k + r)) = kq := ⟨_, rfl⟩
      rw [hkq]
      obtain ⟨pl, hpl⟩ : ∃ pl, pathK k i L F = pl := ⟨_, rfl⟩
      rw [hpl] at HO1 ⊢
      have hfin : Hid (pp = pl ++ [kq]) := by show _ = _; rw [← HPP.out, HLEFT.out hik, hpl, hkq]
      have hlen : pl.length ≤ k := by rw [← hpl]; exact pathK_len _ _ _ _
      have hz2' := hb2.size
      have HB2 := Lib.hid ((HB1.out.trans (hb2.mono hz1')).alloc (by omega) (.cells (bytesOf 32 kq).toArray 24))
      have HO2 := Lib.hid (owns_below HO1.out (hb2.alloc hz2' (.cells (bytesOf 32 kq).toArray 24)))
      have HKR := Lib.hid (key_reads w2 kq)
      clear hb2 hkq hpl HB1 HO1 HR1
      go_wp2_with (first
        | (refine wpList_buildSlice rfl 35 24 1 _ rfl (bytesOf 32 kq).toArray i0 _ Try.underlying35 hi0 hz0 (by rw [hz1]; omega) (by rw [hz1]; omega) (by simp only [List.map_toArray, List.map_cons, List.map_nil]; exact key_fill kq i0 hz1) ?_)
        | (at_builtin
           refine wpList_append_any _ rfl (.tmp 36) (.tmp 41) _ rfl w'.heap.size 24 i0 _ 32 32 Try.underlying35 hi0 hz0 hz1 hz2 rfl (by omega) _ pl.length _ rfl
             HO2.out _ _ 1 1 _ rfl HKR.out (keysOf_oneCell _) (by unfold maxLen; omega) (by omega) (by rw [World.size_alloc]; omega) ?_
           intro v3 w3 ho3 hg3 hat3
           rw [← keysOf_append] at ho3
           have hb3 : Below w'.heap.size w' w3 := HB2.out.grown hg3 (by rw [World.size_alloc]; omega) (fun g e => (HO2.out.lt g e).1)
           obtain ⟨A3, c3, rfl⟩ := own_form ho3
           have HO3 := Lib.hid ho3
           have HB3 := Lib.hid hb3
           clear ho3 hg3 hat3 hb3))
      go_ret2
      rw [hfin.out]
      exact ⟨A3, c3, by simp, HB3.out, by simpa using HO3.out⟩
    · have hik' : ¬ (i : Int) < k := by omega
      have q4 : IntKind.i64.wrap ((i : Int) - k) = ((i - k : Nat) : Int) := by rw [IntWalk.i64_in _ (by omega)]; omega
      have e4 : (i : Int) - k = ((i - k : Nat) : Int) := by omega
      obtain ⟨j, hj⟩ : ∃ j, i - k = j := ⟨_, rfl⟩
      rw [hj] at q4 e4
      have hjn : j < n - k := by omega
      have E4 := Lib.hid e4
      clear e4
      go_wp2_with fail
      refine (HHALF.out _).mono ?_
      rintro e w' ⟨rfl, rfl⟩
      go_wp2_with fail
      first
        | refine (HIH.out (n - k) (by omega) (by omega) w' _ (c - k) _ _ j (HRW.out.drop (by omega)) hjn).mono ?_
        | (rw [E4.out]; refine (HIH.out (n - k) (by omega) (by omega) w' _ (c - k) _ _ j (HRW.out.drop (by omega)) hjn).mono ?_)
      rintro e w1 ⟨A1, c1, rfl, hb1, ho1⟩
      have hz1' := hb1.size
      have HR1 := Lib.hid ((HRW.out.below hb1).take (k := k) (by omega))
      have HB1 := Lib.hid hb1
      have HO1 := Lib.hid ho1
      clear hb1 ho1
      go_wp2_with fail
      refine (rroot_any k (by omega) _ _ _ _ _ HR1.out).mono ?_
      rintro e w2 ⟨rfl, hb2⟩
      obtain ⟨kq, hkq⟩ : ∃ kq, rootK k L F = kq := ⟨_, rfl⟩
      rw [hkq]
      obtain ⟨pl, hpl⟩ : ∃ pl, pathK (n - k) j (fun r => L (k + r)) (fun r => F (k + r)) = pl := ⟨_, rfl⟩
      rw [hpl] at HO1 ⊢
      have hfin : Hid (pp = pl ++ [kq]) := by show _ = _; rw [← HPP.out, HRIGHT.out hik, hj, hpl, hkq]
      have hlen : pl.length ≤ n - k := by rw [← hpl]; exact pathK_len _ _ _ _
      have hz2' := hb2.size
      have HB2 := Lib.hid ((HB1.out.trans (hb2.mono hz1')).alloc (by omega) (.cells (bytesOf 32 kq).toArray 24))
      have HO2 := Lib.hid (owns_below HO1.out (hb2.alloc hz2' (.cells (bytesOf 32 kq).toArray 24)))
      have HKR := Lib.hid (key_reads w2 kq)
      clear hb2 hkq hpl HB1 HO1 HR1
      go_wp2_with (first
        | (refine wpList_buildSlice rfl 35 24 1 _ rfl (bytesOf 32 kq).toArray i0 _ Try.underlying35 hi0 hz0 (by rw [hz1]; omega) (by rw [hz1]; omega) (by simp only [List.map_toArray, List.map_cons, List.map_nil]; exact key_fill kq i0 hz1) ?_)
        | (at_builtin
           refine wpList_append_any _ rfl (.tmp 53) (.tmp 58) _ rfl w'.heap.size 24 i0 _ 32 32 Try.underlying35 hi0 hz0 hz1 hz2 rfl (by omega) _ pl.length _ rfl
             HO2.out _ _ 1 1 _ rfl HKR.out (keysOf_oneCell _) (by unfold maxLen; omega) (by omega) (by rw [World.size_alloc]; omega) ?_
           intro v3 w3 ho3 hg3 hat3
           rw [← keysOf_append] at ho3
           have hb3 : Below w'.heap.size w' w3 := HB2.out.grown hg3 (by rw [World.size_alloc]; omega) (fun g e => (HO2.out.lt g e).1)
           obtain ⟨A3, c3, rfl⟩ := own_form ho3
           have HO3 := Lib.hid ho3
           have HB3 := Lib.hid hb3
           clear ho3 hg3 hat3 hb3))
      go_ret2
      rw [hfin.out]
      exact ⟨A3, c3, by simp, HB3.out, by simpa using HO3.out⟩

set_option maxRecDepth 100000 in
theorem rproof_out (w : World) (A : Option Addr) (n c : Nat) (i : Int) (h : i < 0 ∨ (n : Int) ≤ i) :
    Calls Try.prog 17 #[.slice A n c, .int .i64 i] w fun e w' => e = .returned (.tuple #[.slice none 0 0, .bool false]) ∧ w = w' := by
  by_cases h0 : i < 0
  · go_enter Try.func17, Try.ntmps17
    go_wp2_with fail
    go_ret2
    exact ⟨rfl, rfl⟩
  · have h1 : (n : Int) ≤ i := by omega
    go_enter Try.func17, Try.ntmps17
    go_wp2_with fail
    go_ret2
    exact ⟨rfl, rfl⟩
end Go.Proofs.Ytlijjacnfdnhkaa
