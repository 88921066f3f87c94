/- Lists of fields in memory; Fields. -/
import Derived.Test.YtnhggaghidbniaaWirT
namespace Go.Proofs.Ytnhggaghidbniaa
open Go.RowKit
set_option linter.unusedVariables false
set_option linter.unusedSimpArgs false
open Wir

/-- a field, and where its bytes lie -/
structure FItem where
  f : Fld
  v : Value
def FItem.cells (x : FItem) : List Value := [.int .i64 x.f.num, .int .i64 x.f.kind, .int .u64 (x.f.val : Int), x.v]
theorem FItem.len (x : FItem) : x.cells.length = 4 := rfl
def fldsOf (l : List FItem) : List Value := l.flatMap FItem.cells
theorem fldsOf_append (p q : List FItem) : fldsOf (p ++ q) = fldsOf p ++ fldsOf q := by unfold fldsOf; rw [List.flatMap_append]
theorem fldsOf_one (x : FItem) : fldsOf [x] = x.cells := by unfold fldsOf; simp
theorem fldsOf_cons (x : FItem) (l : List FItem) : fldsOf (x :: l) = x.cells ++ fldsOf l := rfl
theorem fldsOf_len (p : List FItem) : (fldsOf p).length = p.length * 4 := by
  induction p with
  | nil => rfl
  | cons k p ih => rw [fldsOf_cons, List.length_append, ih, FItem.len, List.length_cons]; omega
theorem fldsOf_get : ∀ (l : List FItem) (k j : Nat) (x : FItem), l[k]? = some x → j < 4 → (fldsOf l)[k * 4 + j]? = x.cells[j]?
  | [], k, j, x, h, _ => by simp at h
  | y :: l, 0, j, x, h, hj => by
    rw [List.getElem?_cons_zero] at h
    injection h with h
    subst h
    rw [fldsOf_cons, List.getElem?_append_left (by rw [FItem.len]; omega)]
    congr 1
    omega
  | y :: l, k + 1, j, x, h, hj => by
    rw [List.getElem?_cons_succ] at h
    rw [fldsOf_cons, List.getElem?_append_right (by rw [FItem.len]; omega), FItem.len, show (k + 1) * 4 + j - 4 = k * 4 + j by omega]
    exact fldsOf_get l k j x h hj
/-- a list of fields, to be read -/
def FldsAt (w : World) (A : Option Addr) (m c : Nat) (l : List FItem) : Prop :=
  l.length = m ∧ m ≤ c ∧ c ≤ 9223372036854775807 ∧ (∃ g o, (0 < m → A = some ⟨g, o, none⟩) ∧ ∀ j u, (fldsOf l)[j]? = some u → w.cell? ⟨g, o + j, none⟩ = some u) ∧ ∀ x ∈ l, SeeB w x.v x.f.bytes
theorem FldsAt.below {w w' : World} {A : Option Addr} {m c : Nat} {l : List FItem} (h : FldsAt w A m c l) (hb : Below w.heap.size w w') : FldsAt w' A m c l := by
  obtain ⟨h1, h2, h3, ⟨g, o, hA, hc⟩, h4⟩ := h
  exact ⟨h1, h2, h3, ⟨g, o, hA, fun j u hu => (hb.cell (p := ⟨g, o + j, none⟩) (World.block_lt_of_cell? w _ (hc j u hu))).trans (hc j u hu)⟩, fun x hx => (h4 x hx).below hb⟩
/-- a list of fields of the call's own -/
def OwnF (w : World) (base : Nat) (v : Value) (l : List FItem) : Prop := w.ownsRow base 50 4 v l.length (fldsOf l)
theorem OwnF.form {w : World} {base : Nat} {v : Value} {l : List FItem} (h : OwnF w base v l) (hs : ∀ x ∈ l, SeeB w x.v x.f.bytes) : ∃ A c, v = .slice A l.length c ∧ FldsAt w A l.length c l := by
  have h' : w.ownsRow base 50 4 v l.length (fldsOf l) := h
  obtain ⟨A, c, rfl⟩ := own_form h'
  refine ⟨A, c, rfl, rfl, ?_⟩
  rcases h'.2 with ⟨hv, h0⟩ | ⟨g, cap, cur, hv, hb, hg, hnc, hcm, hsz, htk⟩
  · injection hv with h1 h2 h3
    subst h1 h3
    have : l = [] := List.length_eq_zero_iff.1 h0
    subst this
    exact ⟨Nat.le_refl _, by omega, ⟨0, 0, fun h => absurd h (Nat.lt_irrefl _), fun j u hu => by simp [fldsOf] at hu⟩, hs⟩
  · injection hv with h1 h2 h3
    subst h1 h3
    refine ⟨hnc, hcm, ⟨g, 0, fun _ => rfl, fun j u hu => ?_⟩, hs⟩
    have := h'.cells (g := g) rfl j u hu
    rwa [add_flat] at this
theorem OwnF.below {w w' : World} {base : Nat} {v : Value} {l : List FItem} (h : OwnF w base v l) (hb : Below w.heap.size w w') : OwnF w' base v l := owns_below h hb
theorem OwnF.nil (w : World) (base : Nat) : OwnF w base (.slice none 0 0) [] := World.ownsRow_nil _ _ _ _
theorem fld_info : (Try.prog.info? 50).map (fun i => (i.zero, i.size, i.bytes)) = some (some (.agg #[.int .i64 0, .int .i64 0, .int .u64 0, .slice none 0 0]), 4, 48) := by kernel_rfl
theorem cells_one {x : FItem} (h : x.v.oneCell' = true) : ∀ u ∈ x.cells, u.oneCell' = true := by
  intro u hu
  unfold FItem.cells at hu
  simp at hu
  rcases hu with rfl | rfl | rfl | rfl
  · rfl
  · rfl
  · rfl
  · exact h
theorem fld_fill (a b c : Int) (v : Value) (ie : TypeInfo) (hs : ie.size = 4) : Instr.fill (fun i => some (i * ie.size, ie.size)) ((Array.range (1 * ie.size)).map ((Value.agg #[.int .i64 0, .int .i64 0, .int .u64 0, .slice none 0 0]).cells[· % (Value.agg #[.int .i64 0, .int .i64 0, .int .u64 0, .slice none 0 0]).cells.size]!)) [(0, .agg #[.int .i64 a, .int .i64 b, .int .u64 c, v])] = some #[.int .i64 a, .int .i64 b, .int .u64 c, v] := by
  rw [hs]
  kernel_rfl
theorem wpList_app_fld {ops : Array Oper} {rest : List Oper} {o : Oper} {a : Act} {w : World} {Q : Exit → Act → World → Prop} (hgd : o.guard = none) (s x : Operand)
    (ho : o.op = .call { callee := .builtin .append, args := #[s, x], argTypes := #[46, 46] })
    (base : Nat) (v : Value) (l : List FItem) (hs : a.eval s = v) (hown : OwnF w base v l) (n k : Int) (q : Nat) (b : List UInt8) (u : Value) (hy : u.oneCell' = true)
    (hx : a.eval x = .slice (some ⟨w.heap.size, 0, none⟩) 1 1) (hn : l.length ≤ 1073741824) (hbase : base ≤ w.heap.size)
    (h : ∀ v' w', OwnF w' base v' (l ++ [⟨⟨n, k, q, b⟩, u⟩]) → Below base w w' → w.grownBy w' v.ownBlock → wpList Try.prog ops Q rest (a.put o.dst v') w') :
    wpList Try.prog ops Q (o :: rest) a (w.alloc (.cells #[.int .i64 n, .int .i64 k, .int .u64 (q : Int), u] 50)) := by
  obtain ⟨i0, hi0, hz0, hz1, hz2⟩ := info_parts fld_info
  have hown' : w.ownsRow base 50 4 v l.length (fldsOf l) := hown
  refine app_own hgd s x _ ho base 50 i0 _ 4 48 Try.underlying46 hi0 hz0 hz1 hz2 rfl (by omega) v _ _ hs hown' (FItem.cells ⟨⟨n, k, q, b⟩, u⟩) _ hx rfl (cells_one hy) (by omega) (by omega) hbase ?_
  intro v' w' h1 h2
  refine h v' w' ?_ ((Below.refl base w).grown h2 hbase (fun g e => (hown'.lt g e).1)) h2
  unfold OwnF
  rw [List.length_append, fldsOf_append, fldsOf_one]
  exact h1
/-- a field's bytes stand where a list of fields grows -/
theorem OwnB.grownF {w w' : World} {base : Nat} {v : Value} {b : List UInt8} (h : OwnB w base v b) {base' : Nat} {lv : Value} {l : List FItem} (hl : OwnF w base' lv l) (hg : w.grownBy w' lv.ownBlock) : OwnB w' base v b := by
  have h1 : w.ownsRow base 5 1 v b.length (bytesL b) := h
  have h2 : w.ownsRow base' 50 4 lv l.length (fldsOf l) := hl
  exact owns_apart h1 h2 (by decide) hg
/-- fields of the call's own -/
structure OwnFs (w : World) (base : Nat) (v : Value) (l : List FItem) : Prop where
  row : OwnF w base v l
  byt : ∀ x ∈ l, OwnB w base x.v x.f.bytes
theorem OwnFs.below {w w' : World} {base : Nat} {v : Value} {l : List FItem} (h : OwnFs w base v l) (hb : Below w.heap.size w w') : OwnFs w' base v l := ⟨h.row.below hb, fun x hx => (h.byt x hx).below hb⟩
theorem OwnFs.nil (w : World) (base : Nat) : OwnFs w base (.slice none 0 0) [] := ⟨OwnF.nil _ _, fun x hx => by simp at hx⟩
theorem row_less {w : World} {base base' : Nat} {e : TypeId} {size n : Nat} {v : Value} {xs : List Value} (h : w.ownsRow base e size v n xs) (hb : base' ≤ base) : w.ownsRow base' e size v n xs := by
  refine ⟨h.1, ?_⟩
  rcases h.2 with h0 | ⟨g, cap, cur, hv, hg, hr⟩
  · exact .inl h0
  · exact .inr ⟨g, cap, cur, hv, Nat.le_trans hb hg, hr⟩
theorem OwnFs.less {w : World} {base base' : Nat} {v : Value} {l : List FItem} (h : OwnFs w base v l) (hb : base' ≤ base) : OwnFs w base' v l := ⟨row_less h.row hb, fun x hx => (h.byt x hx).less hb⟩
/-- what reading fields leaves -/
def FldsOut (w : World) (r : Option (List Fld)) (e : Ending) (w' : World) : Prop :=
  Below w.heap.size w w' ∧ match r with
  | some l => ∃ v items, e = .returned (.tuple #[v, .int .i64 0, .int .i64 0]) ∧ OwnFs w' w.heap.size v items ∧ items.map FItem.f = l
  | none => ∃ (at_ c : Int), c ≠ 0 ∧ e = .returned (.tuple #[.slice none 0 0, .int .i64 at_, .int .i64 c])
def FsAt (w : World) (b : List UInt8) (wr : World) (v i : Value) : Prop :=
  ∃ (items : List FItem) (k : Nat), i = .int .i64 (k : Int) ∧ k ≤ b.length ∧ items.length ≤ 1024 ∧ Below w.heap.size w wr ∧ OwnFs wr w.heap.size v items ∧ parse b 0 = (parse (b.drop k) items.length).map (items.map FItem.f ++ ·)

set_option maxRecDepth 100000 in
set_option maxHeartbeats 4000000 in
theorem wfields_any (w : World) (v : Value) (b : List UInt8) (hs : SeeB w v b) (hb : b.length ≤ 1073741824) :
    Calls Try.prog 27 #[v] w (FldsOut w (parse b 0)) := by
  obtain ⟨i0, hi0, hz0, hz1, hz2⟩ := info_parts fld_info
  have HI0 := Lib.hid hi0
  have HZ0 := Lib.hid hz0
  have hlen := hs.len_
  have HS := Lib.hid hs
  obtain ⟨bl, hbl⟩ : ∃ bl, b.length = bl := ⟨_, rfl⟩
  rw [hbl] at hlen hb
  have HBL := Lib.hid hbl
  clear hi0 hz0 hs hbl
  go_enter Try.func27, Try.ntmps27
  go_wp2_with fail
  go_loopw [2, 3] (fun s i wr => FsAt w b wr s i) (fun _ i _ => bl - (intOf i).toNat)
  case atStart => exact ⟨[], 0, rfl, Nat.zero_le _, by simp, Below.refl _ _, OwnFs.nil _ _, by simp⟩
  case round =>
    obtain ⟨items, k, rfl, hk, hil, hbr, hor, hp⟩ := hrel
    have HBR := Lib.hid hbr
    have HP := Lib.hid hp
    have hzr := hbr.size
    have hkb : k ≤ bl := by rw [← HBL.out]; exact hk
    obtain ⟨A, c, hv0⟩ := own_form (show wr.ownsRow w.heap.size 50 4 _ _ _ from hor.row)
    subst hv0
    obtain ⟨il, hil0⟩ : ∃ il, items.length = il := ⟨_, rfl⟩
    rw [hil0] at hil hor ⊢
    have HOR := Lib.hid hor
    have HIL := Lib.hid hil0
    clear hbr hor hp hil0
    rcases Nat.lt_or_ge k bl with hlt | hge
    · have t1 : (k : Int) < (bl : Int) := by omega
      have hne : b.drop k ≠ [] := fun e => by have := congrArg List.length e; rw [List.length_drop, HBL.out] at this; simp at this; omega
      by_cases hfull : il = 1024
      · have t2 : ((il : Int) == 1024) = true := beq_iff_eq.2 (by omega)
        have t2b : (1024 : Int) ≤ (il : Int) := by omega
        have hr : parse b 0 = none := by rw [HP.out, HIL.out, hfull, parse_full hne]; rfl
        clear hfull hne
        go_wp2_with fail
        go_ret3
        refine ⟨HBR.out, ?_⟩
        (try rw [hr])
        exact ⟨_, 3, by decide, rfl⟩
      · have t2 : ((il : Int) == 1024) = false := beq_eq_false_iff_ne.2 (by omega)
        have t2b : ¬ (1024 : Int) ≤ (il : Int) := by omega
        obtain ⟨v2, hv2, sl1, sl2⟩ := HS.out.from_ hk
        have HV2 := Lib.hid (hv2.below HBR.out)
        have hb2 : (b.drop k).length ≤ 1073741824 := by rw [List.length_drop, HBL.out]; omega
        clear hv2
        cases hR : readF (b.drop k) with
        | bad c =>
          have hr : parse b 0 = none := by rw [HP.out, HIL.out, parse_bad hne hfull hR]; rfl
          clear hfull hne
          go_wp2_with fail
          refine (wread_any wr v2 _ HV2.out hb2).mono ?_
          rintro e w4 ⟨hb4, he4⟩
          rw [hR] at he4
          obtain ⟨hc0, rfl⟩ := he4
          have t3 : (c == 0) = false := beq_eq_false_iff_ne.2 hc0
          have t3b : (c != 0) = true := bne_iff_ne.2 hc0
          have HB4 := Lib.hid (HBR.out.trans (hb4.mono hzr))
          have HC0 := Lib.hid hc0
          clear hb4 hc0
          go_wp2_with (refine wpList_store_rowTo rfl 50 (.tmp 5) (.tmp 21) rfl rfl w4.heap.size _ rfl rfl _ _ (fld_new w4) (by kernel_rfl) rfl (by kernel_rfl) ?_)
          generalize hwz : World.setRow _ _ _ = wz
          have hbz : Below w.heap.size w wz := by rw [← hwz]; exact (row_step (HB4.out.alloc HB4.out.size _) HB4.out.size (fld_new w4) _).1
          clear hwz
          go_ret3
          refine ⟨hbz, ?_⟩
          (try rw [hr])
          exact ⟨_, _, HC0.out, rfl⟩
        | ok f s =>
          obtain ⟨r1, r2, r3, r4, r5, r6, r7⟩ := readF_inv hR
          rw [List.length_drop, HBL.out] at r4
          have hr : parse b 0 = (parse (b.drop (k + s)) (il + 1)).map ((items.map FItem.f ++ [f]) ++ ·) := by
            rw [HP.out, HIL.out, parse_ok hne hfull hR, Option.map_map, List.drop_drop]
            congr 1
            funext l
            simp
          have HRR := Lib.hid hr
          clear hfull hne r1 r2 r3 r5 r7 hr
          go_wp2_with fail
          refine (wread_any wr v2 _ HV2.out hb2).mono ?_
          rintro e w4 ⟨hb4, he4⟩
          rw [hR] at he4
          obtain ⟨u, rfl, hu⟩ := he4
          obtain ⟨Au, cu, hue⟩ := own_form (show w4.ownsRow wr.heap.size 5 1 _ _ _ from hu)
          subst hue
          obtain ⟨fn, fk, fv, fb⟩ := f
          obtain ⟨ul, hul⟩ : ∃ ul, fb.length = ul := ⟨_, rfl⟩
          have hu' : OwnB w4 w.heap.size (.slice Au ul cu) fb := by rw [← hul]; exact hu.less hzr
          simp only []
          rw [hul]
          have HU := Lib.hid hu'
          have HB4 := Lib.hid (HBR.out.trans (hb4.mono hzr))
          have HO4 := Lib.hid (HOR.out.below hb4)
          clear hb4 hu hu' hul
          go_upto_region 5 with (refine wpList_store_rowTo rfl 50 (.tmp 5) (.tmp 21) rfl rfl w4.heap.size #[.int .i64 fn, .int .i64 fk, .int .u64 (fv : Int), .slice Au ul cu] rfl rfl _ _ (fld_new w4) (by kernel_rfl) rfl (by kernel_rfl) ?_)
          generalize hw5 : World.setRow _ _ _ = w5
          have h5 : Below w4.heap.size w4 w5 ∧ Blk w5 w4.heap.size 50 #[.int .i64 fn, .int .i64 fk, .int .u64 (fv : Int), .slice Au ul cu] := by
            rw [← hw5]
            exact row_step ((Below.refl _ _).alloc (Nat.le_refl _) _) (Nat.le_refl _) (fld_new w4) _
          have HB5 := Lib.hid (HB4.out.trans (h5.1.mono HB4.out.size))
          have HU5 := Lib.hid (HU.out.below h5.1)
          have HO5 := Lib.hid (HO4.out.below h5.1)
          have c0 := h5.2.cell 0
          have c1 := h5.2.cell 1
          have c2 := h5.2.cell 2
          have c3 := h5.2.cell 3
          simp only [List.getElem?_toArray, List.getElem?_cons_zero, List.getElem?_cons_succ] at c0 c1 c2 c3
          clear hw5 h5 HU HO4 HOR
          have hz5 := HB5.out.size
          have hrow5 := HO5.out.row
          have HW5 := Lib.hid hrow5
          have gs : IntKind.i64.wrap ((k : Int) + (s : Int)) = ((k + s : Nat) : Int) := by rw [show (k : Int) + s = ((k + s : Nat) : Int) by omega]; exact IntWalk.i64_in _ (by omega)
          clear hrow5
          go_wp2_with (first
            | (refine wpList_buildSlice rfl 46 50 1 _ rfl #[.int .i64 fn, .int .i64 fk, .int .u64 (fv : Int), .slice Au ul cu] i0 _ Try.underlying46 HI0.out HZ0.out (by rw [hz1]; omega) (by rw [hz1]; omega) (by simp only [List.map_toArray, List.map_cons, List.map_nil]; exact fld_fill _ _ _ _ i0 hz1) ?_)
            | (at_builtin
               refine wpList_app_fld rfl (.tmp 28) (.tmp 30) rfl w.heap.size _ items rfl HW5.out fn fk fv fb _ rfl rfl (by rw [HIL.out]; omega) hz5 ?_
               intro v7 w7 ho7 hb7 hg7
               have HO7 : Hid (OwnFs w7 w.heap.size v7 (items ++ [⟨⟨fn, fk, fv, fb⟩, .slice Au ul cu⟩])) := Lib.hid ⟨ho7, fun x hx => by
                 rcases List.mem_append.1 hx with hx | hx
                 · exact (HO5.out.byt x hx).grownF HW5.out hg7
                 · obtain rfl := List.mem_singleton.1 hx
                   exact HU5.out.grownF HW5.out hg7⟩
               have HB7 := Lib.hid (HB5.out.trans hb7)
               clear ho7 hb7 hg7))
          go_roundw
          case rel =>
            refine ⟨items ++ [⟨⟨fn, fk, fv, fb⟩, .slice Au ul cu⟩], k + s, by go_num, by rw [HBL.out]; omega, by rw [List.length_append, HIL.out]; show il + 1 ≤ 1024; omega, HB7.out, HO7.out, ?_⟩
            rw [HRR.out, List.length_append, HIL.out, List.map_append]
            rfl
          case measure => simp [intOf]; omega
    · obtain rfl : k = bl := by omega
      have t1 : ¬ (k : Int) < (k : Int) := by omega
      have hr : parse b 0 = some (items.map FItem.f) := by
        rw [HP.out, List.drop_of_length_le (by rw [HBL.out]; omega), parse_nil]
        simp
      go_wp2_with fail
      go_ret3
      refine ⟨HBR.out, ?_⟩
      (try rw [hr])
      exact ⟨_, items, rfl, HOR.out, rfl⟩

set_option maxRecDepth 100000 in
set_option maxHeartbeats 4000000 in
theorem rfields_any (w : World) (v : Value) (b : List UInt8) (hs : SeeB w v b) (hb : b.length ≤ 1073741824) :
    Calls Try.prog 18 #[v] w (FldsOut w (parse b 0)) := by
  obtain ⟨i0, hi0, hz0, hz1, hz2⟩ := info_parts fld_info
  have HI0 := Lib.hid hi0
  have HZ0 := Lib.hid hz0
  have hlen := hs.len_
  have HS := Lib.hid hs
  obtain ⟨bl, hbl⟩ : ∃ bl, b.length = bl := ⟨_, rfl⟩
  rw [hbl] at hlen hb
  have HBL := Lib.hid hbl
  clear hi0 hz0 hs hbl
  go_enter Try.func18, Try.ntmps18
  go_wp2_with fail
  go_loopw [5, 6] (fun s i wr => FsAt w b wr s i) (fun _ i _ => bl - (intOf i).toNat)
  case atStart => exact ⟨[], 0, rfl, Nat.zero_le _, by simp, Below.refl _ _, OwnFs.nil _ _, by simp⟩
  case round =>
    obtain ⟨items, k, rfl, hk, hil, hbr, hor, hp⟩ := hrel
    have HBR := Lib.hid hbr
    have HP := Lib.hid hp
    have hzr := hbr.size
    have hkb : k ≤ bl := by rw [← HBL.out]; exact hk
    obtain ⟨A, c, hv0⟩ := own_form (show wr.ownsRow w.heap.size 50 4 _ _ _ from hor.row)
    subst hv0
    obtain ⟨il, hil0⟩ : ∃ il, items.length = il := ⟨_, rfl⟩
    rw [hil0] at hil hor ⊢
    have HOR := Lib.hid hor
    have HIL := Lib.hid hil0
    clear hbr hor hp hil0
    rcases Nat.lt_or_ge k bl with hlt | hge
    · have t1 : (k : Int) < (bl : Int) := by omega
      have hne : b.drop k ≠ [] := fun e => by have := congrArg List.length e; rw [List.length_drop, HBL.out] at this; simp at this; omega
      by_cases hfull : il = 1024
      · have t2 : ((il : Int) == 1024) = true := beq_iff_eq.2 (by omega)
        have t2b : (1024 : Int) ≤ (il : Int) := by omega
        have hr : parse b 0 = none := by rw [HP.out, HIL.out, hfull, parse_full hne]; rfl
        clear hfull hne
        go_wp2_with fail
        go_ret3
        refine ⟨HBR.out, ?_⟩
        (try rw [hr])
        exact ⟨_, 3, by decide, rfl⟩
      · have t2 : ((il : Int) == 1024) = false := beq_eq_false_iff_ne.2 (by omega)
        have t2b : ¬ (1024 : Int) ≤ (il : Int) := by omega
        obtain ⟨v2, hv2, sl1, sl2⟩ := HS.out.from_ hk
        have HV2 := Lib.hid (hv2.below HBR.out)
        have hb2 : (b.drop k).length ≤ 1073741824 := by rw [List.length_drop, HBL.out]; omega
        clear hv2
        cases hR : readF (b.drop k) with
        | bad c =>
          have hr : parse b 0 = none := by rw [HP.out, HIL.out, parse_bad hne hfull hR]; rfl
          clear hfull hne
          go_wp2_with fail
          refine (rone_any wr v2 _ HV2.out hb2).mono ?_
          rintro e w4 ⟨hb4, he4⟩
          rw [hR] at he4
          obtain ⟨hc0, rfl⟩ := he4
          have t3 : (c == 0) = false := beq_eq_false_iff_ne.2 hc0
          have t3b : (c != 0) = true := bne_iff_ne.2 hc0
          have HB4 := Lib.hid (HBR.out.trans (hb4.mono hzr))
          have HC0 := Lib.hid hc0
          clear hb4 hc0
          go_wp2_with (refine wpList_store_rowTo rfl 50 (.tmp 7) (.tmp 23) rfl rfl w4.heap.size _ rfl rfl _ _ (fld_new w4) (by kernel_rfl) rfl (by kernel_rfl) ?_)
          generalize hwz : World.setRow _ _ _ = wz
          have hbz : Below w.heap.size w wz := by rw [← hwz]; exact (row_step (HB4.out.alloc HB4.out.size _) HB4.out.size (fld_new w4) _).1
          clear hwz
          go_ret3
          refine ⟨hbz, ?_⟩
          (try rw [hr])
          exact ⟨_, _, HC0.out, rfl⟩
        | ok f s =>
          obtain ⟨r1, r2, r3, r4, r5, r6, r7⟩ := readF_inv hR
          rw [List.length_drop, HBL.out] at r4
          have hr : parse b 0 = (parse (b.drop (k + s)) (il + 1)).map ((items.map FItem.f ++ [f]) ++ ·) := by
            rw [HP.out, HIL.out, parse_ok hne hfull hR, Option.map_map, List.drop_drop]
            congr 1
            funext l
            simp
          have HRR := Lib.hid hr
          clear hfull hne r1 r2 r3 r5 r7 hr
          go_wp2_with fail
          refine (rone_any wr v2 _ HV2.out hb2).mono ?_
          rintro e w4 ⟨hb4, he4⟩
          rw [hR] at he4
          obtain ⟨u, rfl, hu⟩ := he4
          obtain ⟨Au, cu, hue⟩ := own_form (show w4.ownsRow wr.heap.size 5 1 _ _ _ from hu)
          subst hue
          obtain ⟨fn, fk, fv, fb⟩ := f
          obtain ⟨ul, hul⟩ : ∃ ul, fb.length = ul := ⟨_, rfl⟩
          have hu' : OwnB w4 w.heap.size (.slice Au ul cu) fb := by rw [← hul]; exact hu.less hzr
          simp only []
          rw [hul]
          have HU := Lib.hid hu'
          have HB4 := Lib.hid (HBR.out.trans (hb4.mono hzr))
          have HO4 := Lib.hid (HOR.out.below hb4)
          clear hb4 hu hu' hul
          go_upto_region 7 with (refine wpList_store_rowTo rfl 50 (.tmp 7) (.tmp 23) rfl rfl w4.heap.size #[.int .i64 fn, .int .i64 fk, .int .u64 (fv : Int), .slice Au ul cu] rfl rfl _ _ (fld_new w4) (by kernel_rfl) rfl (by kernel_rfl) ?_)
          generalize hw5 : World.setRow _ _ _ = w5
          have h5 : Below w4.heap.size w4 w5 ∧ Blk w5 w4.heap.size 50 #[.int .i64 fn, .int .i64 fk, .int .u64 (fv : Int), .slice Au ul cu] := by
            rw [← hw5]
            exact row_step ((Below.refl _ _).alloc (Nat.le_refl _) _) (Nat.le_refl _) (fld_new w4) _
          have HB5 := Lib.hid (HB4.out.trans (h5.1.mono HB4.out.size))
          have HU5 := Lib.hid (HU.out.below h5.1)
          have HO5 := Lib.hid (HO4.out.below h5.1)
          have c0 := h5.2.cell 0
          have c1 := h5.2.cell 1
          have c2 := h5.2.cell 2
          have c3 := h5.2.cell 3
          simp only [List.getElem?_toArray, List.getElem?_cons_zero, List.getElem?_cons_succ] at c0 c1 c2 c3
          clear hw5 h5 HU HO4 HOR
          have hz5 := HB5.out.size
          have hrow5 := HO5.out.row
          have HW5 := Lib.hid hrow5
          have gs : IntKind.i64.wrap ((k : Int) + (s : Int)) = ((k + s : Nat) : Int) := by rw [show (k : Int) + s = ((k + s : Nat) : Int) by omega]; exact IntWalk.i64_in _ (by omega)
          clear hrow5
          go_wp2_with (first
            | (refine wpList_buildSlice rfl 46 50 1 _ rfl #[.int .i64 fn, .int .i64 fk, .int .u64 (fv : Int), .slice Au ul cu] i0 _ Try.underlying46 HI0.out HZ0.out (by rw [hz1]; omega) (by rw [hz1]; omega) (by simp only [List.map_toArray, List.map_cons, List.map_nil]; exact fld_fill _ _ _ _ i0 hz1) ?_)
            | (at_builtin
               refine wpList_app_fld rfl (.tmp 30) (.tmp 32) rfl w.heap.size _ items rfl HW5.out fn fk fv fb _ rfl rfl (by rw [HIL.out]; omega) hz5 ?_
               intro v7 w7 ho7 hb7 hg7
               have HO7 : Hid (OwnFs w7 w.heap.size v7 (items ++ [⟨⟨fn, fk, fv, fb⟩, .slice Au ul cu⟩])) := Lib.hid ⟨ho7, fun x hx => by
                 rcases List.mem_append.1 hx with hx | hx
                 · exact (HO5.out.byt x hx).grownF HW5.out hg7
                 · obtain rfl := List.mem_singleton.1 hx
                   exact HU5.out.grownF HW5.out hg7⟩
               have HB7 := Lib.hid (HB5.out.trans hb7)
               clear ho7 hb7 hg7))
          go_roundw
          case rel =>
            refine ⟨items ++ [⟨⟨fn, fk, fv, fb⟩, .slice Au ul cu⟩], k + s, by go_num, by rw [HBL.out]; omega, by rw [List.length_append, HIL.out]; show il + 1 ≤ 1024; omega, HB7.out, HO7.out, ?_⟩
            rw [HRR.out, List.length_append, HIL.out, List.map_append]
            rfl
          case measure => simp [intOf]; omega
    · obtain rfl : k = bl := by omega
      have t1 : ¬ (k : Int) < (k : Int) := by omega
      have hr : parse b 0 = some (items.map FItem.f) := by
        rw [HP.out, List.drop_of_length_le (by rw [HBL.out]; omega), parse_nil]
        simp
      go_wp2_with fail
      go_ret3
      refine ⟨HBR.out, ?_⟩
      (try rw [hr])
      exact ⟨_, items, rfl, HOR.out, rfl⟩
end Go.Proofs.Ytnhggaghidbniaa
