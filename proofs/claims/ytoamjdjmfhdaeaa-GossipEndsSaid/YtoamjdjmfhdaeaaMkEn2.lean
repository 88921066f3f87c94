/- mempoolmake.Entry. -/
import Derived.Test.YtoamjdjmfhdaeaaMkEnt
import Derived.Test.YtoamjdjmfhdaeaaShaW8
namespace Go.Proofs.Ytoamjdjmfhdaeaa
open Go.RowKit
set_option linter.unusedVariables false
set_option linter.unusedSimpArgs false
open ShaW Sha
attribute [local go_sem ↓] wp_load_ent wp_store_ent

theorem owns_ne2 {w : World} {base base' : Nat} {e e' : TypeId} {size size' n n' : Nat} {v v' : Value} {xs xs' : List Value} (h : w.ownsRow base e size v n xs) (h' : w.ownsRow base' e' size' v' n' xs') (hne : e ≠ e') {g : Nat} (hg : v.ownBlock = some g) : v'.ownBlock ≠ some g := by
  intro hg'
  rcases h.2 with ⟨h1, _⟩ | ⟨k, cap, cur, h1, _, h3, _⟩
  · rw [h1] at hg; cases hg
  · rw [h1] at hg
    injection hg with hg
    subst hg
    exact own_blk_ne h' h3 (Ne.symm hne) hg'
theorem entCells_setP (e : Ent) (rv pv pv' : Value) : ((entCells e rv pv).toArray.setIfInBounds 40 pv') = (entCells e rv pv').toArray := by
  unfold entCells
  rw [List.setIfInBounds_toArray]
  congr 1
/-- an entry that was made -/
structure Made (e : Ent) : Prop where
  rn : e.rn ≤ 8
  pn : e.peers.length ≤ 2
  key : e.key = sha e.rn e.raw
  seq : 0 ≤ e.seq ∧ e.seq ≤ 1000
  gas : 0 ≤ e.gas ∧ e.gas ≤ 1000
  prio : 0 ≤ e.prio ∧ e.prio ≤ 1000
  ht : 0 ≤ e.ht ∧ e.ht ≤ 1000
  tm : 0 ≤ e.tm ∧ e.tm ≤ 1000
  ord : 0 ≤ e.ord ∧ e.ord ≤ 1000
  ps : ∀ p ∈ e.peers, 0 ≤ p ∧ p ≤ 1000
def MkPost (w : World) (B D n N : Nat) (ed : Ending) (w' : World) : Prop := ∃ e rv pv N', ed = .returned (entV e rv pv) ∧ Only (fun k => k = D) w w' ∧ NumAt w' B D n N' ∧ N + 1 ≤ N' ∧ N' ≤ N + 24 ∧ EntAt w' w.heap.size e rv pv ∧ Made e
theorem wpList_buildTo {P : Program} {ops : Array Oper} {rest : List Oper} {o : Oper} {a : Act} {w : World} {Q : Exit → Act → World → Prop} (hgd : o.guard = none) (t : TypeId) (parts : Array (Nat × Operand)) (ho : o.op = .build t parts) (cells : Array Value)
    (hf : P.built t (parts.map fun (i, x) => (i, a.eval x)).toList = some cells) (h : wpList P ops Q rest (a.put o.dst (.agg cells)) w) : wpList P ops Q (o :: rest) a w :=
  wpList_plain hgd fun _ hK => wp_build t parts ho (by rw [hf]; rfl) (by rw [hf]; exact hK _ _ h)
theorem wpList_buildL {P : Program} {ops : Array Oper} {rest : List Oper} {o : Oper} {a : Act} {w : World} {Q : Exit → Act → World → Prop} (hgd : o.guard = none) (t : TypeId) (l : List (Nat × Operand)) (ho : o.op = .build t l.toArray) (cells : Array Value)
    (hf : P.built t (l.map fun x => (x.1, a.eval x.2)) = some cells) (h : wpList P ops Q rest (a.put o.dst (.agg cells)) w) : wpList P ops Q (o :: rest) a w :=
  wpList_buildTo hgd t l.toArray ho cells (by rw [List.map_toArray]; exact hf) h
theorem built_ent (k : Ky) (A : Option Addr) (n c : Nat) (s : ByteArray) (a b d : Int) (x y z : Int) :
    Try.prog.built 47 [(0, .agg (bytesOf 32 k).toArray), (1, .slice A n c), (2, .string s), (3, .int .u64 a), (4, .int .u64 b), (5, .int .u64 d), (6, .int .i64 x), (7, .int .i64 y), (8, .int .i64 z)] =
      some (entCells ⟨k, 0, fun _ => 0, s, a, b, d, x, y, z, []⟩ (.slice A n c) (.slice none 0 0)).toArray := by kernel_rfl
def Row1 (w w1 : World) (B D n N x g : Nat) (z : Array Value) (j : Nat) (wr : World) : Prop := ∃ f, Blk wr w.heap.size 47 z ∧ NumAt wr B D n (N + j) ∧ wr.ownsRow w.heap.size 5 1 (.slice (some ⟨g, 0, none⟩) x x) x (bytesOf x f) ∧ Only (fun k => k = D) w wr ∧ w1.heap.size ≤ wr.heap.size
def Row2 (w : World) (B D n M x g box : Nat) (f : Nat → UInt8) (ent : Ent) (z : Array Value) (ps : List Int) (wr : World) : Prop := ∃ pv, Blk wr w.heap.size 47 z ∧ NumAt wr B D n (M + ps.length) ∧ wr.ownsRow w.heap.size 5 1 (.slice (some ⟨g, 0, none⟩) x x) x (bytesOf x f) ∧ Only (fun k => k = D) w wr ∧
  box < wr.heap.size ∧ Blk wr box 47 (entCells { ent with peers := ps } (.slice (some ⟨g, 0, none⟩) x x) pv).toArray ∧ wr.ownsRow w.heap.size 3 1 pv ps.length (intsV ps)
set_option maxRecDepth 100000 in
set_option maxHeartbeats 4000000 in
theorem mkEntry_any (w : World) (B D n N : Nat) (h : NumAt w B D n N) (hB : B ≤ w.heap.size) (hN : N ≤ 1048576) :
    Calls Try.prog 29 #[.pointer (some ⟨D, 0, none⟩)] w (MkPost w B D n N) := by
  obtain ⟨i0, hi0, hz0, hz1, hz2⟩ := info_parts u8_info
  obtain ⟨i1, hi1, hy0, hy1, hy2⟩ := info_parts int_infoE
  have HN0 := Lib.hid h
  have HI0 := Lib.hid hi0
  have HZ0 := Lib.hid hz0
  have HI1 := Lib.hid hi1
  have HY0 := Lib.hid hy0
  clear h hi0 hz0 hi1 hy0
  go_enter Try.func29, Try.ntmps29
  go_upto_region 1 with (fail)
  generalize hwa : World.alloc w _ = wa
  have hb0 : Below w.heap.size w wa := by rw [← hwa]; exact (Below.refl _ _).alloc (Nat.le_refl _) _
  have hk0 : ∃ z : Array Value, Blk wa w.heap.size 47 z ∧ z.size = 41 := by rw [← hwa]; exact ⟨_, heap_alloc_new _ _, rfl⟩
  obtain ⟨z, hk0, hz41⟩ := hk0
  have hn0 : NumAt wa B D n N := HN0.out.only (Only.of_below (fun _ => False) hb0) hB (fun _ h => h.elim) (fun h => h)
  have HB0 := Lib.hid hb0
  have HK0 := Lib.hid hk0
  have HNa := Lib.hid hn0
  have hza := hb0.size
  clear hwa hb0 hk0 hn0
  have hDw := HN0.out.lt
  go_wp2_with fail
  refine (next_any wa B D n N 9 HNa.out (by omega) (by omega) (by omega)).mono ?_
  rintro e w1 ⟨x, hx, rfl, ho1, hsz1, hn1⟩
  obtain ⟨w2, hmk, hown2, hgr2⟩ := run_make_full (P := Try.prog) w1 w1.heap.size 33 5 i0 _ 1 Try.underlying33 HI0.out HZ0.out hz1 .i64 .i64 x (by rw [hz2]; omega) (by unfold maxLen; omega) (Nat.le_refl _)
  have hb2 : Below w1.heap.size w1 w2 := grownBy_none hgr2
  have e2 : (madeCells (Value.int .u8 0).cells (x * 1)).toList = bytesOf x (fun _ => 0) := by
    show (madeCells #[.int .u8 0] (x * 1)).toList = _
    rw [Nat.mul_one, toList_madeCells_one]
    unfold bytesOf
    rw [List.map_const', List.length_range]
    rfl
  rw [e2] at hown2
  obtain ⟨g, hg⟩ : ∃ g, w1.heap.size = g := ⟨_, rfl⟩
  have hgw : w.heap.size < g := by have := HK0.out.lt; omega
  have HO1 := Lib.hid ho1
  have hR0 : Row1 w w1 B D n (N + 1) x g z 0 w2 := ⟨fun _ => 0, (HK0.out.only ho1 (by omega)).below hb2 (HK0.out.only ho1 (by omega)).lt, hn1.only (Only.of_below (fun _ => False) hb2) (by omega) (fun _ h => h.elim) (fun h => h), by rw [← hg]; exact owns_base2 hown2 (by omega),
    ((Only.of_below (fun k => k = D) HB0.out).trans ho1 (fun k hk => .inl hk)).trans (Only.of_below (fun _ => False) hb2) (fun _ h => h.elim), hb2.size⟩
  have HR0 := Lib.hid hR0
  have hxx : (x : Int) ≤ 8 := by omega
  rw [hg] at hmk
  have HG := Lib.hid hg
  clear e2 hown2 hgr2 hb2 ho1 hsz1 hn1 hg hR0
  go_wp2_with fail
  clear hmk
  go_loopw [4, 12] (fun _ i wr => ∃ j : Nat, j ≤ x ∧ i = .int .i64 (j : Int) ∧ Row1 w w1 B D n (N + 1) x g z j wr) (fun _ i _ => x - (intOf i).toNat)
  case atStart => exact ⟨0, by omega, rfl, HR0.out⟩
  case round =>
    obtain ⟨j, hj, rfl, f, hkr, hnr, hor, hoo, hzr⟩ := hrel
    have HKR := Lib.hid hkr
    have HNr := Lib.hid hnr
    have HOr := Lib.hid hor
    have HOO := Lib.hid hoo
    clear hnr hor hoo HR0 hkr
    rcases Nat.lt_or_ge j x with hlt | hge
    · skip
      have t1 : (j : Int) < x := by omega
      have t2 : (0 : Int) ≤ j := by omega
      go_wp2_with fail
      refine (next_any wr B D n (N + 1 + j) 3 HNr.out (by omega) (by omega) (by omega)).mono ?_
      rintro e w4 ⟨q, hq, rfl, ho4, hsz4, hn4⟩
      have g1 : IntKind.u8.wrap (q : Int) = (q : Int) := IntWalk.u8_in _ (by omega)
      obtain ⟨b, hb⟩ : ∃ b : UInt8, (b.toNat : Int) = (q : Int) := ⟨UInt8.ofNat q, by rw [UInt8.toNat_ofNat', Nat.mod_eq_of_lt (by omega)]⟩
      obtain ⟨cs, hbn⟩ : ∃ cs, Blk wr D 63 cs := by obtain ⟨_, _, _, _, hh, _⟩ := HNr.out; exact ⟨_, hh⟩
      have hor4 := owns_only HOr.out ho4 (fun k hk e => own_blk_ne HOr.out hbn (by decide) (e ▸ hk))
      have hc4 : w4.cell? ⟨g, j, none⟩ = (bytesOf x f)[j]? := hor4.cellAt j (by omega)
      rw [bytesOf_get f hlt] at hc4
      have hf4 := hor4.frozenAt j
      have hst := hor4.stored j (.int .u8 (b.toNat : Int))
      rw [bytesOf_setN, hb] at hst
      have HB4 := Lib.hid hb
      have HKR4 := Lib.hid (HKR.out.only ho4 (by omega))
      have HST := Lib.hid hst
      have HO4 := Lib.hid (HOO.out.trans ho4 (fun k hk => .inl hk))
      have hnf : NumAt (w4.setCell ⟨g, j, none⟩ (.int .u8 (q : Int))) B D n (N + 1 + j + 1) := by
        obtain ⟨cs', hbn4⟩ : ∃ cs, Blk w4 D 63 cs := by obtain ⟨_, _, _, _, hh, _⟩ := hn4; exact ⟨_, hh⟩
        exact hn4.only ((Only.refl (fun k => k = g) w4).setCell_ (p := ⟨g, j, none⟩) (.inl rfl) _) (by have := HO4.out.size; omega) (fun k hk => by have := HO4.out.size; omega) (by omega)
      have HNF := Lib.hid hnf
      have HZ4 : Hid (w1.heap.size ≤ w4.heap.size) := Lib.hid (by omega)
      clear ho4 hsz4 hn4 hbn hor4 hb hst hnf
      go_wp2_with fail
      go_roundw
      case rel =>
        refine ⟨j + 1, by omega, by go_num, _, (HKR4.out.far (p := ⟨g, j, none⟩) (show w.heap.size ≠ g by omega) _), by rw [show N + 1 + (j + 1) = N + 1 + j + 1 by omega]; exact HNF.out, HST.out.1, HO4.out.setCell_ (p := ⟨g, j, none⟩) (.inr (show w.heap.size ≤ g by omega)) _, ?_⟩
        have := HZ4.out
        rw [World.size_setCell]
        omega
      case measure => simp [intOf]; omega
    · obtain rfl : j = x := by omega
      have t1 : ¬ (j : Int) < j := by omega
      have hk5 : Blk wr w.heap.size 47 z := by
        exact HKR.out
      go_wp2_with fail
      refine (rsha_any wr (some ⟨g, 0, none⟩) j j f (Reads.of_own HOr.out) (by omega)).mono ?_
      rintro e w5 ⟨rfl, hb5⟩
      obtain ⟨kk, hkk⟩ : ∃ k, sha j f = k := ⟨_, rfl⟩
      rw [hkk]
      have HKK := Lib.hid hkk
      have HN5 := Lib.hid (HNr.out.only (Only.of_below (fun _ => False) hb5) (by have := HG.out; omega) (fun _ h => h.elim) (fun h => h))
      have HE5 := Lib.hid (owns_below HOr.out hb5)
      have HO5 := Lib.hid (HOO.out.trans (Only.of_below (fun _ => False) hb5) (fun _ h => h.elim))
      have HK5 := Lib.hid (hk5.below hb5 hk5.lt)
      clear hkk hb5 hk5
      go_wp2_with fail
      refine (name_any w5 B D n (N + 1 + j) HN5.out (by have := HO5.out.size; omega) (by omega)).mono ?_
      rintro e w6 ⟨sn, hsn, rfl, ho6, hn6⟩
      have HN6 := Lib.hid hn6
      have HE6 := Lib.hid (owns_only HE5.out ho6 (fun k hk e => by obtain ⟨_, _, _, _, hh, _⟩ := HN5.out; exact own_blk_ne HE5.out hh (by decide) (e ▸ hk)))
      have HO6 := Lib.hid (HO5.out.trans ho6 (fun k hk => .inl hk))
      have HK6 := Lib.hid (HK5.out.only ho6 (fun e => by omega))
      clear ho6 hn6
      go_wp2_with fail
      refine (next_any w6 B D n (N + 1 + j + 1) 4 HN6.out (by omega) (by omega) (by omega)).mono ?_
      rintro e w7 ⟨q1, hq1, rfl, ho, hsz, hn⟩
      have HN7 := Lib.hid hn
      have HE7 := Lib.hid (owns_only HE6.out ho (fun k hk e => by obtain ⟨_, _, _, _, hh, _⟩ := HN6.out; exact own_blk_ne HE6.out hh (by decide) (e ▸ hk)))
      have HO7 := Lib.hid (HO6.out.trans ho (fun k hk => .inl hk))
      have HK7 := Lib.hid (HK6.out.only ho (fun e => by omega))
      clear ho hsz hn
      go_wp2_with fail
      refine (next_any w7 B D n (N + 1 + j + 2) 50 HN7.out (by omega) (by omega) (by omega)).mono ?_
      rintro e w8 ⟨q2, hq2, rfl, ho, hsz, hn⟩
      have HN8 := Lib.hid hn
      have HE8 := Lib.hid (owns_only HE7.out ho (fun k hk e => by obtain ⟨_, _, _, _, hh, _⟩ := HN7.out; exact own_blk_ne HE7.out hh (by decide) (e ▸ hk)))
      have HO8 := Lib.hid (HO7.out.trans ho (fun k hk => .inl hk))
      have HK8 := Lib.hid (HK7.out.only ho (fun e => by omega))
      clear ho hsz hn
      go_wp2_with fail
      refine (next_any w8 B D n (N + 1 + j + 3) 5 HN8.out (by omega) (by omega) (by omega)).mono ?_
      rintro e w9 ⟨q3, hq3, rfl, ho, hsz, hn⟩
      have HN9 := Lib.hid hn
      have HE9 := Lib.hid (owns_only HE8.out ho (fun k hk e => by obtain ⟨_, _, _, _, hh, _⟩ := HN8.out; exact own_blk_ne HE8.out hh (by decide) (e ▸ hk)))
      have HO9 := Lib.hid (HO8.out.trans ho (fun k hk => .inl hk))
      have HK9 := Lib.hid (HK8.out.only ho (fun e => by omega))
      clear ho hsz hn
      go_wp2_with fail
      refine (next_any w9 B D n (N + 1 + j + 4) 9 HN9.out (by omega) (by omega) (by omega)).mono ?_
      rintro e w10 ⟨q4, hq4, rfl, ho, hsz, hn⟩
      have HN10 := Lib.hid hn
      have HE10 := Lib.hid (owns_only HE9.out ho (fun k hk e => by obtain ⟨_, _, _, _, hh, _⟩ := HN9.out; exact own_blk_ne HE9.out hh (by decide) (e ▸ hk)))
      have HO10 := Lib.hid (HO9.out.trans ho (fun k hk => .inl hk))
      have HK10 := Lib.hid (HK9.out.only ho (fun e => by omega))
      clear ho hsz hn
      go_wp2_with fail
      refine (next_any w10 B D n (N + 1 + j + 5) 30 HN10.out (by omega) (by omega) (by omega)).mono ?_
      rintro e w11 ⟨q5, hq5, rfl, ho, hsz, hn⟩
      have HN11 := Lib.hid hn
      have HE11 := Lib.hid (owns_only HE10.out ho (fun k hk e => by obtain ⟨_, _, _, _, hh, _⟩ := HN10.out; exact own_blk_ne HE10.out hh (by decide) (e ▸ hk)))
      have HO11 := Lib.hid (HO10.out.trans ho (fun k hk => .inl hk))
      have HK11 := Lib.hid (HK10.out.only ho (fun e => by omega))
      clear ho hsz hn
      go_wp2_with fail
      refine (next_any w11 B D n (N + 1 + j + 6) 9 HN11.out (by omega) (by omega) (by omega)).mono ?_
      rintro e w12 ⟨q6, hq6, rfl, ho, hsz, hn⟩
      have HN12 := Lib.hid hn
      have HE12 := Lib.hid (owns_only HE11.out ho (fun k hk e => by obtain ⟨_, _, _, _, hh, _⟩ := HN11.out; exact own_blk_ne HE11.out hh (by decide) (e ▸ hk)))
      have HO12 := Lib.hid (HO11.out.trans ho (fun k hk => .inl hk))
      have HK12 := Lib.hid (HK11.out.only ho (fun e => by omega))
      clear ho hsz hn
      have c1 : IntKind.u64.wrap (q1 : Int) = (q1 : Int) := IntWalk.u64_in _ (by omega)
      have c2 : IntKind.u64.wrap (q2 : Int) = (q2 : Int) := IntWalk.u64_in _ (by omega)
      have c3 : IntKind.u64.wrap (q3 : Int) = (q3 : Int) := IntWalk.u64_in _ (by omega)
      obtain ⟨ent, hent⟩ : ∃ ent : Ent, (⟨kk, 0, fun _ => 0, sn, q1, q2, q3, q4, q5, q6, []⟩ : Ent) = ent := ⟨_, rfl⟩
      obtain ⟨cs, hcs⟩ : ∃ cs, entCells ent (.slice (some ⟨g, 0, none⟩) j j) (.slice none 0 0) = cs := ⟨_, rfl⟩
      have hcl : cs.toArray.size = 41 := by rw [← hcs, List.size_toArray, entCells_len]
      have hc1 : cs.toArray.all (·.oneCell') = true := by
        rw [← hcs, List.all_toArray, List.all_eq_true]
        exact entCells_one rfl rfl
      have HBD := Lib.hid (built_ent kk (some ⟨g, 0, none⟩) j j sn q1 q2 q3 q4 q5 q6)
      rw [hent, hcs] at HBD
      have HENT := Lib.hid hent
      have HCS := Lib.hid hcs
      have HCL := Lib.hid hcl
      have HC1 := Lib.hid hc1
      clear hent hcs hcl hc1
      go_wp2_with (first | (refine wpList_buildL rfl 47 _ rfl cs.toArray (by refine Eq.trans (congrArg (Program.built _ _) (?_ : _ = ([(0, keyV kk), (1, .slice (some ⟨g, 0, none⟩) j j), (2, .string sn), (3, .int .u64 q1), (4, .int .u64 q2), (5, .int .u64 q3), (6, .int .i64 q4), (7, .int .i64 q5), (8, .int .i64 q6)] : List (Nat × Value)))) HBD.out; rfl) ?_) | (refine wpList_store_rowTo rfl 47 (.tmp 5) (.tmp 42) rfl rfl w12.heap.size cs.toArray rfl rfl _ _ (heap_alloc_new _ _) (by rw [HCL.out]; kernel_rfl) (by rw [HCL.out]; kernel_rfl) HC1.out ?_; generalize hwc : World.setRow _ _ _ = w13; have hk13 : Blk w13 w12.heap.size 47 cs.toArray := (by rw [← hwc]; exact setRow_same _ _ _ _ _ (heap_alloc_new _ _)); have hb13 : Below w12.heap.size w12 w13 := (by rw [← hwc]; exact below_setRow ((Below.refl _ _).alloc (Nat.le_refl _) _) (Nat.le_refl _) _); obtain ⟨box, hbox⟩ : ∃ b, w12.heap.size = b := ⟨_, rfl⟩; rw [hbox] at hk13 hb13 ⊢; have HBX := Lib.hid hbox; have HK13 := Lib.hid hk13; have HB13 := Lib.hid hb13; clear hwc hbox hk13 hb13))
      have HN13 := Lib.hid (HN12.out.only (Only.of_below (fun _ => False) (by rw [HBX.out]; exact HB13.out)) (by have := HBX.out; have := HO12.out.size; have := HG.out; omega) (fun _ h => h.elim) (fun h => h))
      have HE13 := Lib.hid (owns_below HE12.out (by rw [HBX.out]; exact HB13.out))
      have HO13 := Lib.hid (HO12.out.trans (Only.of_below (fun _ => False) (by rw [HBX.out]; exact HB13.out)) (fun _ h => h.elim))
      refine (next_any w13 B D n (N + 1 + j + 7) 3 HN13.out (by omega) (by omega) (by omega)).mono ?_
      rintro e w14 ⟨q7, hq7, rfl, ho, hsz, hn⟩
      have HN14 := Lib.hid hn
      have HE14 := Lib.hid (owns_only HE13.out ho (fun k hk e => by obtain ⟨_, _, _, _, hh, _⟩ := HN13.out; exact own_blk_ne HE13.out hh (by decide) (e ▸ hk)))
      have HZ14 := Lib.hid ((HK12.out.below (by rw [HBX.out]; exact HB13.out) HK12.out.lt).only ho (by omega))
      have HO14 := Lib.hid (HO13.out.trans ho (fun k hk => .inl hk))
      have HK14 := Lib.hid (HK13.out.only ho (fun e => by have := HBX.out; have := HO12.out.size; omega))
      clear ho hsz hn
      have hK2 : entCells ent (.slice (some ⟨g, 0, none⟩) j j) (.slice none 0 0) = entCells { ent with peers := [] } (.slice (some ⟨g, 0, none⟩) j j) (.slice none 0 0) := rfl
      have HR2 : Hid (Row2 w B D n (N + 1 + j + 8) j g box f ent z [] w14) := Lib.hid ⟨.slice none 0 0, HZ14.out, HN14.out, HE14.out, HO14.out, HK14.out.lt, by rw [← hK2, HCS.out]; exact HK14.out, World.ownsRow_nil _ _ _ _⟩
      go_wp2_with fail
      go_loopw [6] (fun i wr => ∃ q : Nat, ∃ ps : List Int, q + ps.length ≤ 2 ∧ (∀ p ∈ ps, 0 ≤ p ∧ p ≤ 1000) ∧ i = .int .i64 (q : Int) ∧ Row2 w B D n (N + 1 + j + 8) j g box f ent z ps wr) (fun i _ => (intOf i).toNat)
      case atStart => exact ⟨q7, [], (by simp; omega), (fun _ h => by simp at h), rfl, HR2.out⟩
      case round =>
        obtain ⟨q, ps, hqp, hps, rfl, pv, hka, hna, hra, hoa, hbx, hkb, hpa⟩ := hrel
        rcases Nat.eq_zero_or_pos q with hq0 | hq0
        · have t1 : ¬ (q : Int) > 0 := by omega
          have qa : AggOk 41 wr (.pointer (some ⟨box, 0, none⟩)) := aggOk_mk (blk_rangeN hkb) (entCells_len _ _ _)
          have ld := loadN_eq (n := 41) (blk_rangeN hkb) (entCells_len _ _ _)
          have qs : StoOk 41 wr (.pointer (some ⟨w.heap.size, 0, none⟩)) (.agg (entCells { ent with peers := ps } (.slice (some ⟨g, 0, none⟩) j j) pv).toArray) := ⟨_, 0, _, rfl, rfl, entCells_len _ _ _, blk_there hka (by omega), entCells_one rfl (own_oneCell hpa)⟩
          obtain ⟨cs2, hcs2⟩ : ∃ c, entCells { ent with peers := ps } (.slice (some ⟨g, 0, none⟩) j j) pv = c := ⟨_, rfl⟩
          rw [hcs2] at ld qs
          have HKA := Lib.hid hka
          have HKB := Lib.hid hkb
          have HC2 := Lib.hid hcs2
          have HNA := Lib.hid hna
          have HRA := Lib.hid hra
          have HOA := Lib.hid hoa
          have HPA := Lib.hid hpa
          clear hka hna hra hoa hkb hpa hcs2
          go_wp2_with fail
          generalize hwz : storeMid _ _ _ = wz
          have hez : wz = wr.setCells w.heap.size 0 cs2 := by rw [← hwz]; exact storeMid_eq _ _ _ _
          have hcl2 : cs2.length = 41 := by rw [← HC2.out]; exact entCells_len _ _ _
          have hrr := setCells_whole (cs := cs2) HKA.out (by omega)
          rw [← hez] at hrr
          have hoz : Only (fun k => k = w.heap.size) wr wz := by rw [hez]; exact setCells_only (fun k => k = w.heap.size) wr w.heap.size 0 _ (.inl rfl)
          have hsz := HOA.out.size
          refine bodyPost_ret (results_cell_row rfl _ _ (w.heap.size) _ cs2.toArray (0, 0) _ rfl hrr Try.underlying47 rfl (by rw [List.size_toArray, hcl2]; kernel_rfl)) rfl
            ⟨{ ent with rn := j, raw := f, peers := ps }, .slice (some ⟨g, 0, none⟩) j j, pv, N + 1 + j + 8 + ps.length, by rw [← HC2.out]; rfl, ?_, ?_, by omega, by omega, ⟨?_, ?_⟩, ?_⟩
          · exact HOA.out.trans hoz (fun k hk => .inr (by omega))
          · exact HNA.out.only hoz (by omega) (fun k hk => by omega) (by omega)
          · exact owns_only HRA.out hoz (fun k hk e => own_blk_ne HRA.out HKA.out (by decide) (e ▸ hk))
          · exact owns_only HPA.out hoz (fun k hk e => own_blk_ne HPA.out HKA.out (by decide) (e ▸ hk))
          · have he := HENT.out
            subst he
            exact ⟨by show j ≤ 8; omega, by show ps.length ≤ 2; omega, HKK.out.symm, by show 0 ≤ (q1 : Int) ∧ (q1 : Int) ≤ 1000; omega, by show 0 ≤ (q2 : Int) ∧ (q2 : Int) ≤ 1000; omega, by show 0 ≤ (q3 : Int) ∧ (q3 : Int) ≤ 1000; omega, by show 0 ≤ (q4 : Int) ∧ (q4 : Int) ≤ 1000; omega, by show 0 ≤ (q5 : Int) ∧ (q5 : Int) ≤ 1000; omega, by show 0 ≤ (q6 : Int) ∧ (q6 : Int) ≤ 1000; omega, hps⟩
        · have t1 : (q : Int) > 0 := by omega
          --R11
          have x40 : wr.cell? ⟨box, 40, none⟩ = some pv := by rw [hkb.cell]; exact List.getElem?_toArray.trans (entCells_get _ _ _ 8)
          obtain ⟨Av, cv, rfl⟩ := own_form hpa
          have HKA := Lib.hid hka
          have HKB := Lib.hid hkb
          have HNA := Lib.hid hna
          have HRA := Lib.hid hra
          have HOA := Lib.hid hoa
          have HPA := Lib.hid hpa
          have HND : Hid (NumAt wr.drew B D n (N + 1 + j + 8 + ps.length)) := Lib.hid (HNA.out.only (Only.of_below (fun _ => False) (below_drewN (Below.refl _ wr) 1)) (by have := HOA.out.size; omega) (fun _ h => h.elim) (fun h => h))
          have HNX : Hid (Calls Try.prog 22 #[.pointer (some ⟨D, 0, none⟩), .int .i64 4] wr.drew (NextPost wr.drew B D n (N + 1 + j + 8 + ps.length) 4)) := Lib.hid (next_any wr.drew B D n (N + 1 + j + 8 + ps.length) 4 HND.out (by omega) (by omega) (by omega))
          have hboxD : box ≠ D := by have := HBX.out; have := HO12.out.size; omega
          have hbw : w.heap.size < box := by have := HBX.out; have := HK12.out.lt; omega
          have hlp : ps.length + 1 ≤ 2 := by omega
          have hbase := HOA.out.size
          clear hka hna hra hoa hkb hpa
          go_wp2_with fail
          refine wp_region_noPanic ?_
          refine wp_region_held_drew (S := fun _ => True) (by kernel_rfl) trivial (fun hHeld => ?_)
          refine wpAnyH_take (i := 0) (oi := ⟨some 49, _, _, _, _, _⟩) (v := ?_) rfl (by kernel_rfl) (by kernel_rfl) (by kernel_rfl) (fun _ _ _ h => h) (Or.inl ⟨by kernel_rfl, ?_⟩) hHeld ?_
          rotate_left
          · intro w hSw
            (try dsimp only at hSw)
            go_simp
            all_goals (with_reducible rfl)
          conv => arg 8; simp only [Act.put, List.setIfInBounds_toArray, List.set_cons_zero, List.set_cons_succ]
          refine wpAnyH_take (i := 2) (oi := ⟨some 51, _, _, _, _, _⟩) (v := ?_) rfl (by kernel_rfl) (by kernel_rfl) (by kernel_rfl) (fun _ _ _ h => h) (Or.inl ⟨by kernel_rfl, ?_⟩) hHeld ?_
          rotate_left
          · intro w hSw
            (try dsimp only at hSw)
            go_simp
            all_goals (with_reducible rfl)
          conv => arg 8; simp only [Act.put, List.setIfInBounds_toArray, List.set_cons_zero, List.set_cons_succ]
          refine wpAnyH_ready (rs := [1, 3]) (by kernel_rfl) (by simp) ?_
          refine AllReadyH.cons (o := ⟨some 50, _, _, _, _, _⟩) rfl (fun K hK => ?_) (AllReadyH.cons (o := ⟨some 52, _, _, _, _, _⟩) rfl (fun K hK => ?_) AllReadyH.nil)
          · go_simp
            refine hK.out _ _ trivial (fun hHeld => ?_)
            clear hK K
            conv => arg 8; simp only [Act.put, List.setIfInBounds_toArray, List.set_cons_zero, List.set_cons_succ]
            refine wpAnyH_ready (rs := [3]) (by kernel_rfl) (by simp) ?_
            refine AllReadyH.cons (o := ⟨some 52, _, _, _, _, _⟩) rfl (fun K hK => ?_) AllReadyH.nil
            go_simp
            go_at_call 22
            (with_reducible refine (HNX.out).mono ?_)
            rintro ed4 w4 ⟨x4, hx4, rfl, ho4, hsz4, hn4⟩
            have HN4 := Lib.hid hn4
            have oa : Only (fun k => k = D) wr w4 := (Only.of_below (fun k => k = D) (below_drewN (Below.refl _ wr) 1)).trans ho4 (fun k hk => .inl hk)
            have HO4 := Lib.hid oa
            have hs4 := oa.size
            have g1 : IntKind.i64.wrap (1 + (x4 : Int)) = 1 + (x4 : Int) := IntWalk.i64_in _ (by omega)
            have hKA4 := HKA.out.only oa (fun e => by omega)
            have HKA4 := Lib.hid hKA4
            have hKB4 := HKB.out.only oa (fun e => by omega)
            have HKB4 := Lib.hid hKB4
            have hnd : ∃ cs, Blk wr D 63 cs := by obtain ⟨_, _, _, _, hh, _⟩ := HNA.out; exact ⟨_, hh⟩
            obtain ⟨csD, hnd⟩ := hnd
            have HRA4 := Lib.hid (owns_only HRA.out oa (fun k hk e => own_blk_ne HRA.out hnd (by decide) (e ▸ hk)))
            have HPA4 := Lib.hid (owns_only HPA.out oa (fun k hk e => own_blk_ne HPA.out hnd (by decide) (e ▸ hk)))
            have y4 : w4.cell? ⟨box, 40, none⟩ = some (.slice Av ps.length cv) := (oa.cell (p := ⟨box, 40, none⟩) HKB.out.lt hboxD).trans x40
            clear hn4 ho4 hsz4 hnd
            refine hK.out _ _ trivial (fun hHeld => ?_)
            clear hK K
            conv => arg 8; simp only [Act.put, List.setIfInBounds_toArray, List.set_cons_zero, List.set_cons_succ]
            refine wpAnyH_take (i := 4) (oi := ⟨some 53, _, _, _, _, _⟩) (v := ?_) rfl (by kernel_rfl) (by kernel_rfl) (by kernel_rfl) (fun _ _ _ h => h) (Or.inl ⟨by kernel_rfl, ?_⟩) hHeld ?_
            rotate_left
            · intro w hSw
              (try dsimp only at hSw)
              go_simp
              all_goals (with_reducible rfl)
            conv => arg 8; simp only [Act.put, List.setIfInBounds_toArray, List.set_cons_zero, List.set_cons_succ]
            refine wpAnyH_ready (rs := [5]) (by kernel_rfl) (by simp) ?_
            refine AllReadyH.cons (o := ⟨some 54, _, _, _, _, _⟩) rfl (fun K hK => ?_) AllReadyH.nil
            go_simp
            generalize hW : World.alloc _ _ = w5 at hHeld ⊢
            have hb5 : Below w4.heap.size w4 w5 := by rw [← hW]; exact (Below.refl _ _).alloc (Nat.le_refl _) _
            have hx5 : Blk w5 w4.heap.size 3 #[.int .i64 (1 + (x4 : Int))] := by rw [← hW]; exact heap_alloc_new _ _
            have y5 : w5.cell? ⟨box, 40, none⟩ = some (.slice Av ps.length cv) := (hb5.cell (p := ⟨box, 40, none⟩) HKB4.out.lt).trans y4
            have HB5 := Lib.hid hb5
            have hr5 : Reads w5 w5.heap.size 1 (some ⟨w4.heap.size, 0, none⟩) 1 [.int .i64 (1 + (x4 : Int))] := by
              refine ⟨rfl, fun _ => ⟨⟨w4.heap.size, 0, none⟩, rfl, hx5.lt, fun j u hu => ?_⟩⟩
              rw [add_flat, Nat.zero_add, hx5.cell]
              simpa using hu
            have HR5 := Lib.hid hr5
            have HPA5 := Lib.hid (owns_below HPA4.out hb5)
            have hs5 := hb5.size
            clear hW hb5 hr5
            refine hK.out _ _ trivial (fun hHeld => ?_)
            clear hK K
            conv => arg 8; simp only [Act.put, List.setIfInBounds_toArray, List.set_cons_zero, List.set_cons_succ]
            refine wpAnyH_ready (rs := [6]) (by kernel_rfl) (by simp) ?_
            refine AllReadyH.cons (o := ⟨some 55, _, _, _, _, _⟩) rfl (fun K hK => ?_) AllReadyH.nil
            refine step_append_any _ (by rfl) (.tmp 50) (.tmp 54) _ (by rfl) w.heap.size 3 i1 _ 1 8 Try.underlying24 HI1.out HY0.out hy1 hy2 rfl (by omega) (.slice Av ps.length cv) (ps.length) (intsV ps) (by rfl) HPA5.out _ (some ⟨w4.heap.size, 0, none⟩) 1 1 _ (by rfl) HR5.out (by simp [Value.oneCell']) (by unfold maxLen; omega) (by omega) (by omega) ?_
            intro v6 w6 ho6 hg6 hat6
            have o6 := Only.of_grown hg6
            have hx6 : w6.ownsRow w.heap.size 3 1 v6 (ps ++ [1 + (x4 : Int)]).length (intsV (ps ++ [1 + (x4 : Int)])) := by
              rw [List.length_append]
              unfold intsV at ho6 ⊢
              rw [List.map_append]
              exact ho6
            obtain ⟨A6, c6, rfl⟩ := own_form hx6
            have HKB5 := Lib.hid (HKB4.out.below HB5.out HKB4.out.lt)
            have HKA5 := Lib.hid (HKA4.out.below HB5.out HKA4.out.lt)
            have HRA5 := Lib.hid (owns_below HRA4.out HB5.out)
            have HN5 := Lib.hid (HN4.out.only (Only.of_below (fun _ => False) HB5.out) (by omega) (fun _ h => h.elim) (fun h => h))
            have hnd5 : ∃ cs, Blk w5 D 63 cs := by obtain ⟨_, _, _, _, hh, _⟩ := HN5.out; exact ⟨_, hh⟩
            obtain ⟨csD5, hnd5⟩ := hnd5
            have HKB6 := Lib.hid (HKB5.out.only o6 (own_blk_ne HPA5.out HKB5.out (by decide)))
            have HKA6 := Lib.hid (HKA5.out.only o6 (own_blk_ne HPA5.out HKA5.out (by decide)))
            have HRA6 := Lib.hid (owns_only HRA5.out o6 (fun k h1 h2 => owns_ne2 HRA5.out HPA5.out (by decide) h1 h2))
            have HN6 := Lib.hid (HN5.out.only o6 (by omega) (fun k hk => by have := (HPA5.out.lt k hk).1; omega) (own_blk_ne HPA5.out hnd5 (by decide)))
            have HO6 := Lib.hid ((HOA.out.trans HO4.out (fun k hk => .inl hk)).trans ((Only.of_below (fun k => k = D ∨ w.heap.size ≤ k) HB5.out).trans o6 (fun k hk => .inl (.inr (HPA5.out.lt k hk).1))) (fun k hk => hk))
            have HX6 := Lib.hid hx6
            have y6 : w6.cell? ⟨box, 40, none⟩ = some (.slice Av ps.length cv) := by rw [HKB6.out.cell]; exact List.getElem?_toArray.trans (entCells_get _ _ _ 8)
            have f6 := HKB6.out.frozen 40
            clear ho6 hg6 hat6 o6 hx6 hnd5
            refine hK.out _ _ trivial (fun hHeld => ?_)
            clear hK K
            conv => arg 8; simp only [Act.put, List.setIfInBounds_toArray, List.set_cons_zero, List.set_cons_succ]
            refine wpAnyH_take (i := 7) (oi := ⟨some 56, _, _, _, _, _⟩) (v := ?_) rfl (by kernel_rfl) (by kernel_rfl) (by kernel_rfl) (fun _ _ _ h => h) (Or.inl ⟨by kernel_rfl, ?_⟩) hHeld ?_
            rotate_left
            · intro w hSw
              (try dsimp only at hSw)
              go_simp
              all_goals (with_reducible rfl)
            conv => arg 8; simp only [Act.put, List.setIfInBounds_toArray, List.set_cons_zero, List.set_cons_succ]
            refine wpAnyH_ready (rs := [8]) (by kernel_rfl) (by simp) ?_
            refine AllReadyH.cons (o := ⟨none, _, _, _, _, _⟩) rfl (fun K hK => ?_) AllReadyH.nil
            go_simp
            generalize hw7 : World.setCell _ _ _ = w7
            have hb7 : Blk w7 box 47 (entCells { ent with peers := ps ++ [1 + (x4 : Int)] } (.slice (some ⟨g, 0, none⟩) j j) (.slice A6 (ps ++ [1 + (x4 : Int)]).length c6)).toArray := by
              rw [← hw7]
              have h1 := HKB6.out.set_ 40 (.slice A6 (ps ++ [1 + (x4 : Int)]).length c6)
              rw [entCells_setP] at h1
              rw [List.length_append] at h1 ⊢
              exact h1
            have o7 : Only (fun k => k = box) w6 w7 := by rw [← hw7]; exact (Only.refl (fun k => k = box) w6).setCell_ (p := ⟨box, 40, none⟩) (.inl rfl) _
            have HB7 := Lib.hid hb7
            have HO7 := Lib.hid o7
            clear hw7 hb7 o7 y6 f6
            refine hK.out _ _ trivial (fun hHeld => ?_)
            clear hK K
            conv => arg 8; simp only [Act.put, List.setIfInBounds_toArray, List.set_cons_zero, List.set_cons_succ]
            refine wpAnyH_done (by kernel_rfl) ?_ _
            refine NoPanic.normal ?_
            have k1 : IntKind.i64.wrap ((q : Int) - 1) = (q : Int) - 1 := IntWalk.i64_in _ (by omega)
            clear hHeld
            go_wp2_with fail
            go_roundw
            case rel =>
              have h1 := HO6.out.size
              refine ⟨q - 1, ps ++ [1 + (x4 : Int)], by rw [List.length_append]; show q - 1 + (ps.length + 1) ≤ 2; omega, ?_, by go_num, .slice A6 (ps ++ [1 + (x4 : Int)]).length c6, HKA6.out.only HO7.out (by omega), ?_, owns_only HRA6.out HO7.out (fun k h1 h2 => own_blk_ne HRA6.out HKB6.out (by decide) (h2 ▸ h1)), ?_, ?_, HB7.out, owns_only HX6.out HO7.out (fun k h1 h2 => own_blk_ne HX6.out HKB6.out (by decide) (h2 ▸ h1))⟩
              · intro p hp
                rcases List.mem_append.1 hp with hp | hp
                · exact hps p hp
                · rw [List.mem_singleton.1 hp]; omega
              · have h2 := HN6.out.only HO7.out (by omega) (fun k hk => by omega) (fun e => hboxD e.symm)
                rw [List.length_append]
                exact h2
              · exact HO6.out.trans HO7.out (fun k hk => .inr (by omega))
              · exact HB7.out.lt
            case measure => simp [intOf]; omega
          · go_simp
            go_at_call 22
            (with_reducible refine (HNX.out).mono ?_)
            rintro ed4 w4 ⟨x4, hx4, rfl, ho4, hsz4, hn4⟩
            have HN4 := Lib.hid hn4
            have oa : Only (fun k => k = D) wr w4 := (Only.of_below (fun k => k = D) (below_drewN (Below.refl _ wr) 1)).trans ho4 (fun k hk => .inl hk)
            have HO4 := Lib.hid oa
            have hs4 := oa.size
            have g1 : IntKind.i64.wrap (1 + (x4 : Int)) = 1 + (x4 : Int) := IntWalk.i64_in _ (by omega)
            have hKA4 := HKA.out.only oa (fun e => by omega)
            have HKA4 := Lib.hid hKA4
            have hKB4 := HKB.out.only oa (fun e => by omega)
            have HKB4 := Lib.hid hKB4
            have hnd : ∃ cs, Blk wr D 63 cs := by obtain ⟨_, _, _, _, hh, _⟩ := HNA.out; exact ⟨_, hh⟩
            obtain ⟨csD, hnd⟩ := hnd
            have HRA4 := Lib.hid (owns_only HRA.out oa (fun k hk e => own_blk_ne HRA.out hnd (by decide) (e ▸ hk)))
            have HPA4 := Lib.hid (owns_only HPA.out oa (fun k hk e => own_blk_ne HPA.out hnd (by decide) (e ▸ hk)))
            have y4 : w4.cell? ⟨box, 40, none⟩ = some (.slice Av ps.length cv) := (oa.cell (p := ⟨box, 40, none⟩) HKB.out.lt hboxD).trans x40
            clear hn4 ho4 hsz4 hnd
            refine hK.out _ _ trivial (fun hHeld => ?_)
            clear hK K
            conv => arg 8; simp only [Act.put, List.setIfInBounds_toArray, List.set_cons_zero, List.set_cons_succ]
            refine wpAnyH_take (i := 4) (oi := ⟨some 53, _, _, _, _, _⟩) (v := ?_) rfl (by kernel_rfl) (by kernel_rfl) (by kernel_rfl) (fun _ _ _ h => h) (Or.inl ⟨by kernel_rfl, ?_⟩) hHeld ?_
            rotate_left
            · intro w hSw
              (try dsimp only at hSw)
              go_simp
              all_goals (with_reducible rfl)
            conv => arg 8; simp only [Act.put, List.setIfInBounds_toArray, List.set_cons_zero, List.set_cons_succ]
            refine wpAnyH_ready (rs := [1, 5]) (by kernel_rfl) (by simp) ?_
            refine AllReadyH.cons (o := ⟨some 50, _, _, _, _, _⟩) rfl (fun K hK => ?_) (AllReadyH.cons (o := ⟨some 54, _, _, _, _, _⟩) rfl (fun K hK => ?_) AllReadyH.nil)
            · go_simp
              refine hK.out _ _ trivial (fun hHeld => ?_)
              clear hK K
              conv => arg 8; simp only [Act.put, List.setIfInBounds_toArray, List.set_cons_zero, List.set_cons_succ]
              refine wpAnyH_ready (rs := [5]) (by kernel_rfl) (by simp) ?_
              refine AllReadyH.cons (o := ⟨some 54, _, _, _, _, _⟩) rfl (fun K hK => ?_) AllReadyH.nil
              go_simp
              generalize hW : World.alloc _ _ = w5 at hHeld ⊢
              have hb5 : Below w4.heap.size w4 w5 := by rw [← hW]; exact (Below.refl _ _).alloc (Nat.le_refl _) _
              have hx5 : Blk w5 w4.heap.size 3 #[.int .i64 (1 + (x4 : Int))] := by rw [← hW]; exact heap_alloc_new _ _
              have y5 : w5.cell? ⟨box, 40, none⟩ = some (.slice Av ps.length cv) := (hb5.cell (p := ⟨box, 40, none⟩) HKB4.out.lt).trans y4
              have HB5 := Lib.hid hb5
              have hr5 : Reads w5 w5.heap.size 1 (some ⟨w4.heap.size, 0, none⟩) 1 [.int .i64 (1 + (x4 : Int))] := by
                refine ⟨rfl, fun _ => ⟨⟨w4.heap.size, 0, none⟩, rfl, hx5.lt, fun j u hu => ?_⟩⟩
                rw [add_flat, Nat.zero_add, hx5.cell]
                simpa using hu
              have HR5 := Lib.hid hr5
              have HPA5 := Lib.hid (owns_below HPA4.out hb5)
              have hs5 := hb5.size
              clear hW hb5 hr5
              refine hK.out _ _ trivial (fun hHeld => ?_)
              clear hK K
              conv => arg 8; simp only [Act.put, List.setIfInBounds_toArray, List.set_cons_zero, List.set_cons_succ]
              refine wpAnyH_ready (rs := [6]) (by kernel_rfl) (by simp) ?_
              refine AllReadyH.cons (o := ⟨some 55, _, _, _, _, _⟩) rfl (fun K hK => ?_) AllReadyH.nil
              refine step_append_any _ (by rfl) (.tmp 50) (.tmp 54) _ (by rfl) w.heap.size 3 i1 _ 1 8 Try.underlying24 HI1.out HY0.out hy1 hy2 rfl (by omega) (.slice Av ps.length cv) (ps.length) (intsV ps) (by rfl) HPA5.out _ (some ⟨w4.heap.size, 0, none⟩) 1 1 _ (by rfl) HR5.out (by simp [Value.oneCell']) (by unfold maxLen; omega) (by omega) (by omega) ?_
              intro v6 w6 ho6 hg6 hat6
              have o6 := Only.of_grown hg6
              have hx6 : w6.ownsRow w.heap.size 3 1 v6 (ps ++ [1 + (x4 : Int)]).length (intsV (ps ++ [1 + (x4 : Int)])) := by
                rw [List.length_append]
                unfold intsV at ho6 ⊢
                rw [List.map_append]
                exact ho6
              obtain ⟨A6, c6, rfl⟩ := own_form hx6
              have HKB5 := Lib.hid (HKB4.out.below HB5.out HKB4.out.lt)
              have HKA5 := Lib.hid (HKA4.out.below HB5.out HKA4.out.lt)
              have HRA5 := Lib.hid (owns_below HRA4.out HB5.out)
              have HN5 := Lib.hid (HN4.out.only (Only.of_below (fun _ => False) HB5.out) (by omega) (fun _ h => h.elim) (fun h => h))
              have hnd5 : ∃ cs, Blk w5 D 63 cs := by obtain ⟨_, _, _, _, hh, _⟩ := HN5.out; exact ⟨_, hh⟩
              obtain ⟨csD5, hnd5⟩ := hnd5
              have HKB6 := Lib.hid (HKB5.out.only o6 (own_blk_ne HPA5.out HKB5.out (by decide)))
              have HKA6 := Lib.hid (HKA5.out.only o6 (own_blk_ne HPA5.out HKA5.out (by decide)))
              have HRA6 := Lib.hid (owns_only HRA5.out o6 (fun k h1 h2 => owns_ne2 HRA5.out HPA5.out (by decide) h1 h2))
              have HN6 := Lib.hid (HN5.out.only o6 (by omega) (fun k hk => by have := (HPA5.out.lt k hk).1; omega) (own_blk_ne HPA5.out hnd5 (by decide)))
              have HO6 := Lib.hid ((HOA.out.trans HO4.out (fun k hk => .inl hk)).trans ((Only.of_below (fun k => k = D ∨ w.heap.size ≤ k) HB5.out).trans o6 (fun k hk => .inl (.inr (HPA5.out.lt k hk).1))) (fun k hk => hk))
              have HX6 := Lib.hid hx6
              have y6 : w6.cell? ⟨box, 40, none⟩ = some (.slice Av ps.length cv) := by rw [HKB6.out.cell]; exact List.getElem?_toArray.trans (entCells_get _ _ _ 8)
              have f6 := HKB6.out.frozen 40
              clear ho6 hg6 hat6 o6 hx6 hnd5
              refine hK.out _ _ trivial (fun hHeld => ?_)
              clear hK K
              conv => arg 8; simp only [Act.put, List.setIfInBounds_toArray, List.set_cons_zero, List.set_cons_succ]
              refine wpAnyH_take (i := 7) (oi := ⟨some 56, _, _, _, _, _⟩) (v := ?_) rfl (by kernel_rfl) (by kernel_rfl) (by kernel_rfl) (fun _ _ _ h => h) (Or.inl ⟨by kernel_rfl, ?_⟩) hHeld ?_
              rotate_left
              · intro w hSw
                (try dsimp only at hSw)
                go_simp
                all_goals (with_reducible rfl)
              conv => arg 8; simp only [Act.put, List.setIfInBounds_toArray, List.set_cons_zero, List.set_cons_succ]
              refine wpAnyH_ready (rs := [8]) (by kernel_rfl) (by simp) ?_
              refine AllReadyH.cons (o := ⟨none, _, _, _, _, _⟩) rfl (fun K hK => ?_) AllReadyH.nil
              go_simp
              generalize hw7 : World.setCell _ _ _ = w7
              have hb7 : Blk w7 box 47 (entCells { ent with peers := ps ++ [1 + (x4 : Int)] } (.slice (some ⟨g, 0, none⟩) j j) (.slice A6 (ps ++ [1 + (x4 : Int)]).length c6)).toArray := by
                rw [← hw7]
                have h1 := HKB6.out.set_ 40 (.slice A6 (ps ++ [1 + (x4 : Int)]).length c6)
                rw [entCells_setP] at h1
                rw [List.length_append] at h1 ⊢
                exact h1
              have o7 : Only (fun k => k = box) w6 w7 := by rw [← hw7]; exact (Only.refl (fun k => k = box) w6).setCell_ (p := ⟨box, 40, none⟩) (.inl rfl) _
              have HB7 := Lib.hid hb7
              have HO7 := Lib.hid o7
              clear hw7 hb7 o7 y6 f6
              refine hK.out _ _ trivial (fun hHeld => ?_)
              clear hK K
              conv => arg 8; simp only [Act.put, List.setIfInBounds_toArray, List.set_cons_zero, List.set_cons_succ]
              refine wpAnyH_done (by kernel_rfl) ?_ _
              refine NoPanic.normal ?_
              have k1 : IntKind.i64.wrap ((q : Int) - 1) = (q : Int) - 1 := IntWalk.i64_in _ (by omega)
              clear hHeld
              go_wp2_with fail
              go_roundw
              case rel =>
                have h1 := HO6.out.size
                refine ⟨q - 1, ps ++ [1 + (x4 : Int)], by rw [List.length_append]; show q - 1 + (ps.length + 1) ≤ 2; omega, ?_, by go_num, .slice A6 (ps ++ [1 + (x4 : Int)]).length c6, HKA6.out.only HO7.out (by omega), ?_, owns_only HRA6.out HO7.out (fun k h1 h2 => own_blk_ne HRA6.out HKB6.out (by decide) (h2 ▸ h1)), ?_, ?_, HB7.out, owns_only HX6.out HO7.out (fun k h1 h2 => own_blk_ne HX6.out HKB6.out (by decide) (h2 ▸ h1))⟩
                · intro p hp
                  rcases List.mem_append.1 hp with hp | hp
                  · exact hps p hp
                  · rw [List.mem_singleton.1 hp]; omega
                · have h2 := HN6.out.only HO7.out (by omega) (fun k hk => by omega) (fun e => hboxD e.symm)
                  rw [List.length_append]
                  exact h2
                · exact HO6.out.trans HO7.out (fun k hk => .inr (by omega))
                · exact HB7.out.lt
              case measure => simp [intOf]; omega
            · go_simp
              generalize hW : World.alloc _ _ = w5 at hHeld ⊢
              have hb5 : Below w4.heap.size w4 w5 := by rw [← hW]; exact (Below.refl _ _).alloc (Nat.le_refl _) _
              have hx5 : Blk w5 w4.heap.size 3 #[.int .i64 (1 + (x4 : Int))] := by rw [← hW]; exact heap_alloc_new _ _
              have y5 : w5.cell? ⟨box, 40, none⟩ = some (.slice Av ps.length cv) := (hb5.cell (p := ⟨box, 40, none⟩) HKB4.out.lt).trans y4
              have HB5 := Lib.hid hb5
              have hr5 : Reads w5 w5.heap.size 1 (some ⟨w4.heap.size, 0, none⟩) 1 [.int .i64 (1 + (x4 : Int))] := by
                refine ⟨rfl, fun _ => ⟨⟨w4.heap.size, 0, none⟩, rfl, hx5.lt, fun j u hu => ?_⟩⟩
                rw [add_flat, Nat.zero_add, hx5.cell]
                simpa using hu
              have HR5 := Lib.hid hr5
              have HPA5 := Lib.hid (owns_below HPA4.out hb5)
              have hs5 := hb5.size
              clear hW hb5 hr5
              refine hK.out _ _ trivial (fun hHeld => ?_)
              clear hK K
              conv => arg 8; simp only [Act.put, List.setIfInBounds_toArray, List.set_cons_zero, List.set_cons_succ]
              refine wpAnyH_ready (rs := [1]) (by kernel_rfl) (by simp) ?_
              refine AllReadyH.cons (o := ⟨some 50, _, _, _, _, _⟩) rfl (fun K hK => ?_) AllReadyH.nil
              go_simp
              refine hK.out _ _ trivial (fun hHeld => ?_)
              clear hK K
              conv => arg 8; simp only [Act.put, List.setIfInBounds_toArray, List.set_cons_zero, List.set_cons_succ]
              refine wpAnyH_ready (rs := [6]) (by kernel_rfl) (by simp) ?_
              refine AllReadyH.cons (o := ⟨some 55, _, _, _, _, _⟩) rfl (fun K hK => ?_) AllReadyH.nil
              refine step_append_any _ (by rfl) (.tmp 50) (.tmp 54) _ (by rfl) w.heap.size 3 i1 _ 1 8 Try.underlying24 HI1.out HY0.out hy1 hy2 rfl (by omega) (.slice Av ps.length cv) (ps.length) (intsV ps) (by rfl) HPA5.out _ (some ⟨w4.heap.size, 0, none⟩) 1 1 _ (by rfl) HR5.out (by simp [Value.oneCell']) (by unfold maxLen; omega) (by omega) (by omega) ?_
              intro v6 w6 ho6 hg6 hat6
              have o6 := Only.of_grown hg6
              have hx6 : w6.ownsRow w.heap.size 3 1 v6 (ps ++ [1 + (x4 : Int)]).length (intsV (ps ++ [1 + (x4 : Int)])) := by
                rw [List.length_append]
                unfold intsV at ho6 ⊢
                rw [List.map_append]
                exact ho6
              obtain ⟨A6, c6, rfl⟩ := own_form hx6
              have HKB5 := Lib.hid (HKB4.out.below HB5.out HKB4.out.lt)
              have HKA5 := Lib.hid (HKA4.out.below HB5.out HKA4.out.lt)
              have HRA5 := Lib.hid (owns_below HRA4.out HB5.out)
              have HN5 := Lib.hid (HN4.out.only (Only.of_below (fun _ => False) HB5.out) (by omega) (fun _ h => h.elim) (fun h => h))
              have hnd5 : ∃ cs, Blk w5 D 63 cs := by obtain ⟨_, _, _, _, hh, _⟩ := HN5.out; exact ⟨_, hh⟩
              obtain ⟨csD5, hnd5⟩ := hnd5
              have HKB6 := Lib.hid (HKB5.out.only o6 (own_blk_ne HPA5.out HKB5.out (by decide)))
              have HKA6 := Lib.hid (HKA5.out.only o6 (own_blk_ne HPA5.out HKA5.out (by decide)))
              have HRA6 := Lib.hid (owns_only HRA5.out o6 (fun k h1 h2 => owns_ne2 HRA5.out HPA5.out (by decide) h1 h2))
              have HN6 := Lib.hid (HN5.out.only o6 (by omega) (fun k hk => by have := (HPA5.out.lt k hk).1; omega) (own_blk_ne HPA5.out hnd5 (by decide)))
              have HO6 := Lib.hid ((HOA.out.trans HO4.out (fun k hk => .inl hk)).trans ((Only.of_below (fun k => k = D ∨ w.heap.size ≤ k) HB5.out).trans o6 (fun k hk => .inl (.inr (HPA5.out.lt k hk).1))) (fun k hk => hk))
              have HX6 := Lib.hid hx6
              have y6 : w6.cell? ⟨box, 40, none⟩ = some (.slice Av ps.length cv) := by rw [HKB6.out.cell]; exact List.getElem?_toArray.trans (entCells_get _ _ _ 8)
              have f6 := HKB6.out.frozen 40
              clear ho6 hg6 hat6 o6 hx6 hnd5
              refine hK.out _ _ trivial (fun hHeld => ?_)
              clear hK K
              conv => arg 8; simp only [Act.put, List.setIfInBounds_toArray, List.set_cons_zero, List.set_cons_succ]
              refine wpAnyH_take (i := 7) (oi := ⟨some 56, _, _, _, _, _⟩) (v := ?_) rfl (by kernel_rfl) (by kernel_rfl) (by kernel_rfl) (fun _ _ _ h => h) (Or.inl ⟨by kernel_rfl, ?_⟩) hHeld ?_
              rotate_left
              · intro w hSw
                (try dsimp only at hSw)
                go_simp
                all_goals (with_reducible rfl)
              conv => arg 8; simp only [Act.put, List.setIfInBounds_toArray, List.set_cons_zero, List.set_cons_succ]
              refine wpAnyH_ready (rs := [8]) (by kernel_rfl) (by simp) ?_
              refine AllReadyH.cons (o := ⟨none, _, _, _, _, _⟩) rfl (fun K hK => ?_) AllReadyH.nil
              go_simp
              generalize hw7 : World.setCell _ _ _ = w7
              have hb7 : Blk w7 box 47 (entCells { ent with peers := ps ++ [1 + (x4 : Int)] } (.slice (some ⟨g, 0, none⟩) j j) (.slice A6 (ps ++ [1 + (x4 : Int)]).length c6)).toArray := by
                rw [← hw7]
                have h1 := HKB6.out.set_ 40 (.slice A6 (ps ++ [1 + (x4 : Int)]).length c6)
                rw [entCells_setP] at h1
                rw [List.length_append] at h1 ⊢
                exact h1
              have o7 : Only (fun k => k = box) w6 w7 := by rw [← hw7]; exact (Only.refl (fun k => k = box) w6).setCell_ (p := ⟨box, 40, none⟩) (.inl rfl) _
              have HB7 := Lib.hid hb7
              have HO7 := Lib.hid o7
              clear hw7 hb7 o7 y6 f6
              refine hK.out _ _ trivial (fun hHeld => ?_)
              clear hK K
              conv => arg 8; simp only [Act.put, List.setIfInBounds_toArray, List.set_cons_zero, List.set_cons_succ]
              refine wpAnyH_done (by kernel_rfl) ?_ _
              refine NoPanic.normal ?_
              have k1 : IntKind.i64.wrap ((q : Int) - 1) = (q : Int) - 1 := IntWalk.i64_in _ (by omega)
              clear hHeld
              go_wp2_with fail
              go_roundw
              case rel =>
                have h1 := HO6.out.size
                refine ⟨q - 1, ps ++ [1 + (x4 : Int)], by rw [List.length_append]; show q - 1 + (ps.length + 1) ≤ 2; omega, ?_, by go_num, .slice A6 (ps ++ [1 + (x4 : Int)]).length c6, HKA6.out.only HO7.out (by omega), ?_, owns_only HRA6.out HO7.out (fun k h1 h2 => own_blk_ne HRA6.out HKB6.out (by decide) (h2 ▸ h1)), ?_, ?_, HB7.out, owns_only HX6.out HO7.out (fun k h1 h2 => own_blk_ne HX6.out HKB6.out (by decide) (h2 ▸ h1))⟩
                · intro p hp
                  rcases List.mem_append.1 hp with hp | hp
                  · exact hps p hp
                  · rw [List.mem_singleton.1 hp]; omega
                · have h2 := HN6.out.only HO7.out (by omega) (fun k hk => by omega) (fun e => hboxD e.symm)
                  rw [List.length_append]
                  exact h2
                · exact HO6.out.trans HO7.out (fun k hk => .inr (by omega))
                · exact HB7.out.lt
              case measure => simp [intOf]; omega
          --R11E
end Go.Proofs.Ytoamjdjmfhdaeaa
