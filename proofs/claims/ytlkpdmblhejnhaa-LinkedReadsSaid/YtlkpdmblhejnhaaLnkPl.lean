/- The statements' play: the list and the reference do the same. -/
import Derived.Test.YtlkpdmblhejnhaaLnkKn
import Derived.Test.YtlkpdmblhejnhaaRef7f
namespace Go.Proofs.Ytlkpdmblhejnhaa
open Go.RowKit
set_option linter.unusedVariables false
open Lnk

theorem rdrop_any (w : World) (B : Nat) (ev fv : Value) (r : R) (s : Int) (h : RefAt w B ev fv r) (hB : B ≤ w.heap.size) (hm : r.E.length ≤ 1048576) (hF : r.F.length ≤ 1048576) :
    Calls Try.prog 32 #[refV ev fv r, .int .i64 s] w (RefPost w B (dropR r s) (.bool (placeR r.E s).isSome)) := by
  cases hp : placeR r.E s with
  | none =>
    have e : dropR r s = r := by unfold dropR; rw [hp]
    rw [e]
    exact rremove_no w B ev fv r s h hm hp
  | some i =>
    obtain ⟨x, hx, rfl, _⟩ := placeR_ex hp
    have e : dropR r (x.1 : Int) = removeR r i x.1 := by unfold dropR; rw [hp]; rfl
    rw [e]
    exact rremove_yes w B ev fv r i x h hB hm hF hx hp
theorem rturn_any (w : World) (B : Nat) (ev fv : Value) (r : R) (s : Int) (h : RefAt w B ev fv r) (hB : B ≤ w.heap.size) (hm : r.E.length ≤ 1048576) :
    Calls Try.prog 33 #[refV ev fv r, .int .i64 s] w (RefPost w B (turnR r s) (.bool (placeR r.E s).isSome)) := by
  cases hp : placeR r.E s with
  | none =>
    have e : turnR r s = r := by unfold turnR; rw [hp]
    rw [e]
    exact rmove_no w B ev fv r s h hm hp
  | some i =>
    obtain ⟨x, hx, rfl, hg⟩ := placeR_ex hp
    have e : turnR r (x.1 : Int) = moveR r i x := by unfold turnR; rw [hp]; show moveR r i _ = _; rw [hg]
    rw [e]
    exact rmove_yes w B ev fv r i x h hB hm hx hp

/-- r has few elements and slots -/
structure Few (r : R) (N : Nat) : Prop where
  U : r.U ≤ N
  E : r.E.length ≤ N
  F : r.F.length ≤ N
theorem few_pb {r : R} {N : Nat} (h : Few r N) (v : Int) : Few (pushBackR r v) (N + 1) := by
  obtain ⟨h1, h2, h3⟩ := h
  refine ⟨?_, ?_, ?_⟩
  · show (if r.F.length = 0 then r.U + 1 else r.U) ≤ N + 1; split <;> omega
  · show (r.E ++ _).length ≤ _; simp; omega
  · show (r.F.take _).length ≤ _; rw [List.length_take]; omega
theorem few_pf {r : R} {N : Nat} (h : Few r N) (v : Int) : Few (pushFrontR r v) (N + 1) := by
  obtain ⟨h1, h2, h3⟩ := h
  refine ⟨?_, ?_, ?_⟩
  · show (if r.F.length = 0 then r.U + 1 else r.U) ≤ N + 1; split <;> omega
  · show (_ :: r.E).length ≤ _; simp; omega
  · show (r.F.take _).length ≤ _; rw [List.length_take]; omega
theorem few_drop {r : R} {N : Nat} (h : Few r N) (s : Int) : Few (dropR r s) (N + 1) := by
  obtain ⟨h1, h2, h3⟩ := h
  unfold dropR
  cases hp : placeR r.E s with
  | none => exact ⟨by show r.U ≤ _; omega, by show r.E.length ≤ _; omega, by show r.F.length ≤ _; omega⟩
  | some i =>
    refine ⟨by show r.U ≤ _; omega, ?_, ?_⟩
    · show (without r.E i).length ≤ _; unfold without; simp; omega
    · show (r.F ++ _).length ≤ _; simp; omega
theorem few_turn {r : R} {N : Nat} (h : Few r N) (s : Int) : Few (turnR r s) (N + 1) := by
  obtain ⟨h1, h2, h3⟩ := h
  unfold turnR
  cases hp : placeR r.E s with
  | none => exact ⟨by show r.U ≤ _; omega, by show r.E.length ≤ _; omega, by show r.F.length ≤ _; omega⟩
  | some i =>
    obtain ⟨x, hx, _, _⟩ := placeR_ex hp
    refine ⟨by show r.U ≤ _; omega, ?_, by show r.F.length ≤ _; omega⟩
    show (without r.E i ++ _).length ≤ _; unfold without; simp; omega
theorem few_more {r : R} {N M : Nat} (h : Few r N) (hm : N ≤ M) : Few r M := ⟨Nat.le_trans h.U hm, Nat.le_trans h.E hm, Nat.le_trans h.F hm⟩

/-- where the numbers stand -/
def numN (w : World) (D : Nat) : Nat := match w.cell? ⟨D, 1, none⟩ with | some (.int _ k) => k.toNat | _ => 0
theorem NumAt.numN {w : World} {B D n N : Nat} (h : NumAt w B D n N) : numN w D = N := by
  obtain ⟨A, c, f, _, hb, _⟩ := h
  have := hb.cell 1
  unfold Go.Proofs.Ytlkpdmblhejnhaa.numN
  rw [this]
  rfl

/-- both lists, and the numbers, in one world -/
structure Both (w0 : World) (B Dn Dl Bm n N : Nat) (rv ev fv : Value) (r : R) (w : World) : Prop where
  num : NumAt w B Dn n N
  lis : Lis w B Dl rv r
  ref : RefAt w B ev fv r
  box : Blk w Bm 28 #[ev, fv, .int .i64 (r.U : Int)]
  bel : Below B w0 w
  few : Few r N
/-- the same, with something of it unnamed; and the box of a result -/
def BothAt (w0 : World) (B Dn Dl Bm Br n N : Nat) (w : World) : Prop := (∃ rv ev fv r, Both w0 B Dn Dl Bm n N rv ev fv r w) ∧ Blk w Br 28 #[.slice none 0 0, .slice none 0 0, .int .i64 0]
theorem ref_nil (w : World) (B : Nat) : RefAt w B (.slice none 0 0) (.slice none 0 0) emptyR := ⟨World.ownsRow_nil _ _ _ _, World.ownsRow_nil _ _ _ _⟩

/-- the numbers, the list and the reference's list, which may be a step ahead -/
structure Tri (w0 : World) (B Dn Dl n N : Nat) (rv ev fv : Value) (r q : R) (w : World) : Prop where
  num : NumAt w B Dn n N
  lis : Lis w B Dl rv r
  ref : RefAt w B ev fv q
  bel : Below B w0 w
  sz : B ≤ w.heap.size
section
variable {w0 : World} {B Dn Dl n N : Nat} {rv ev fv : Value} {r q : R} {w w' : World}
theorem Tri.below (h : Tri w0 B Dn Dl n N rv ev fv r q w) (hb : Below w.heap.size w w') : Tri w0 B Dn Dl n N rv ev fv r q w' :=
  ⟨h.num.only (Only.of_below (fun _ => False) hb) h.sz (fun _ h => h.elim) (fun h => h), h.lis.below hb, h.ref.below hb, h.bel.trans (hb.mono h.sz), Nat.le_trans h.sz hb.size⟩
theorem Tri.ref_ {ev' fv' : Value} {q' : R} (h : Tri w0 B Dn Dl n N rv ev fv r q w) (hb : Below w.heap.size w w') (hr : RefAt w' B ev' fv' q') : Tri w0 B Dn Dl n N rv ev' fv' r q' w' :=
  ⟨(h.below hb).num, (h.below hb).lis, hr, (h.below hb).bel, (h.below hb).sz⟩
theorem Tri.box_ {Bm : Nat} {cs : Array Value} (h : Tri w0 B Dn Dl n N rv ev fv r q w) (hk : Blk w Bm 28 cs) (ho : Only (fun k => k = Bm) w w') (hB : B ≤ Bm) (hD : Dn ≠ Bm) : Tri w0 B Dn Dl n N rv ev fv r q w' := by
  refine ⟨h.num.only ho h.sz (fun k hk => by omega) hD, ?_, h.ref.box hk ho, ho.below_trans h.bel h.sz (fun k hk => by omega), Nat.le_trans h.sz ho.size⟩
  obtain ⟨c, h1, h2⟩ := h.lis
  refine ⟨c, h1.only ho fun k hf e => ?_, h2⟩
  subst e
  rcases hf with rfl | hf
  · exact absurd rfl (Blk.ne_ h1.blk hk (by decide))
  · exact own_blk_ne h1.row hk (by decide) hf
theorem Tri.lis_ {rv' : Value} {r' : R} (h : Tri w0 B Dn Dl n N rv ev fv r q w) (ho : Only (foot Dl rv) w w') (hl : Lis w' B Dl rv' r') : Tri w0 B Dn Dl n N rv' ev fv r' q w' :=
  ⟨h.num.lis h.lis h.sz ho, hl, h.ref.lis h.lis ho, ho.below_trans h.bel h.sz h.lis.ge, Nat.le_trans h.sz ho.size⟩
theorem Tri.both {Bm : Nat} (h : Tri w0 B Dn Dl n N rv ev fv r r w) (hk : Blk w Bm 28 #[ev, fv, .int .i64 (r.U : Int)]) (hf : Few r N) : Both w0 B Dn Dl Bm n N rv ev fv r w := ⟨h.num, h.lis, h.ref, hk, h.bel, hf⟩
end

def PlayPost (w : World) (n : Nat) (e : Ending) (w' : World) : Prop := ∃ Dl rv ev fv r, e = .returned (.tuple #[.pointer (some ⟨Dl, 0, none⟩), refV ev fv r, .bool true]) ∧ Below w.heap.size w w' ∧ Lis w' w.heap.size Dl rv r ∧ RefAt w' w.heap.size ev fv r ∧ Few r (n + 1)

theorem results_tct {P : Program} {fn : Func} {o p q : Tmp} {ty : TypeId} (h : fn.results = #[.tmp o, .cell p ty, .tmp q]) (tmps : Array Value) (w : World) (g : Nat) (t : TypeId) (cs : Array Value) (fr : Nat × Nat) (d : TypeDesc)
    (hp : tmps.getD p undef = .pointer (some ⟨g, 0, none⟩)) (hg : w.heap[g]? = some (.cells cs t fr))
    (hu : P.underlying ty = some d) (hd : (match d with | .struct _ | .array _ _ => true | _ => false) = true) (hi : (P.info? ty).map (·.size) = some cs.size) :
    (results fn tmps).run P w = .ok (.tuple #[tmps.getD o undef, .agg cs, tmps.getD q undef]) w := by
  have hp' : tmps[p]?.getD undef = .pointer (some ⟨g, 0, none⟩) := by simpa using hp
  simp [results, h, hp', asAddr, run_loadVar_row w g t ty cs fr d hg hu hd hi]

set_option maxRecDepth 100000 in
set_option maxHeartbeats 4000000 in
theorem play_any (w : World) (A : Option Addr) (n c : Nat) (f : Nat → Int) (h : IntsAt w w.heap.size A n c f) (hn : n ≤ 160) :
    Calls Try.prog 10 #[.slice A n c] w (PlayPost w n) := by
  have hk := h
  have HI := Lib.hid h
  clear h hk
  go_enter Try.func10, Try.ntmps10
  go_wp2_with fail
  generalize hwa : World.alloc w _ = wa
  have hb0 : Below w.heap.size w wa := by rw [← hwa]; exact (Below.refl _ _).alloc (Nat.le_refl _) _
  have hr0 : Blk wa w.heap.size 28 #[.slice none 0 0, .slice none 0 0, .int .i64 0] := by rw [← hwa]; exact heap_alloc_at _ _ _ rfl
  have hz0 : wa.heap.size = w.heap.size + 1 := by rw [← hwa]; simp
  clear hwa
  refine (from_any wa w.heap.size n c A f (HI.out.below hb0) (by omega)).mono ?_
  rintro e w1 ⟨rfl, hb1, hz1, hn1⟩
  have hr1 := hr0.below hb1 hr0.lt
  have hB1 := hb0.trans (hb1.mono (by omega))
  rw [hz0] at hn1 hz1 ⊢
  have HN := Lib.hid hn1
  have HR := Lib.hid hr1
  have HB := Lib.hid hB1
  have HZ := Lib.hid hz1
  clear hb0 hr0 hz0 hb1 hn1 hr1 hB1 hz1
  go_wp2_with fail
  refine (lnewR_any w1 w.heap.size (by have := HZ.out; omega)).mono ?_
  rintro e w2 ⟨rfl, hb2, hz2, hl2⟩
  have hN2 := HN.out.only (Only.of_below (fun _ => False) hb2) (by have := HZ.out; omega) (fun _ h => h.elim) (fun h => h)
  have hr2 := HR.out.below hb2 HR.out.lt
  have hB2 := HB.out.trans (hb2.mono (by have := HZ.out; omega))
  rw [HZ.out] at hl2 hz2 ⊢
  have HN2 := Lib.hid hN2
  have HR2 := Lib.hid hr2
  have HB2 := Lib.hid hB2
  have HZ2 := Lib.hid hz2
  have HL2 := Lib.hid hl2
  clear hN2 hr2 hB2 hz2 hl2 hb2 HN HR HB HZ
  go_wp2_with fail
  rw [show w2.heap.size = w.heap.size + 1 + 1 + 1 from HZ2.out]
  go_loopw [8] (fun _ wr => ∃ N, BothAt w w.heap.size (w.heap.size + 1) (w.heap.size + 1 + 1) (w.heap.size + 1 + 1 + 1) w.heap.size n N wr ∧ N ≤ n + 1) (fun _ wr => n - numN wr (w.heap.size + 1))
  case atStart =>
    have ha : Below w2.heap.size w2 (w2.alloc (.cells #[.slice none 0 0, .slice none 0 0, .int .i64 0] 28)) := (Below.refl _ _).alloc (Nat.le_refl _) _
    refine ⟨0, ⟨⟨_, .slice none 0 0, .slice none 0 0, emptyR, ?_, HL2.out.below ha, ref_nil _ _, ?_, ?_, ?_⟩, HR2.out.below ha HR2.out.lt⟩, by omega⟩
    · exact HN2.out.only (Only.of_below (fun _ => False) ha) (by have := HZ2.out; omega) (fun _ h => h.elim) (fun h => h)
    · exact heap_alloc_at _ _ _ (by have := HZ2.out; omega)
    · exact HB2.out.alloc (by have := HZ2.out; omega) _
    · exact ⟨by decide, by decide, by decide⟩
  case round =>
    obtain ⟨N, ⟨⟨rv, ev, fv, r, hb⟩, hbr⟩, hN⟩ := hrel
    clear HN2 HR2 HB2 HZ2 HL2
    obtain ⟨hnum, hlis, href, hbox, hbel, hfew⟩ := hb
    have hq : numN wr (w.heap.size + 1) = N := hnum.numN
    obtain ⟨An, cn, fn, _, hbn, _⟩ := id hnum
    have x1 : wr.cell? ⟨w.heap.size + 1, 1, none⟩ = some (.int .i64 (N : Int)) := hbn.cell 1
    rcases Nat.lt_or_ge N n with hlt | hge
    · have hlt' : (N : Int) < n := by omega
      have hsz := hbel.size
      have HNUM := Lib.hid hnum
      have HLIS := Lib.hid hlis
      have HREF := Lib.hid href
      have HBOX := Lib.hid hbox
      have HBEL := Lib.hid hbel
      have HFEW := Lib.hid hfew
      have HBR := Lib.hid hbr
      have HQ := Lib.hid hq
      clear hnum hlis href hbox hbel hfew hbr hbn hq
      go_wp2_with fail
      refine (next_any wr w.heap.size (w.heap.size + 1) n N 9 HNUM.out (by omega) (by omega) (by omega)).mono ?_
      rintro e w3 ⟨x, hx, rfl, ho3, hz3, hn3⟩
      have hlis3 := HLIS.out.num HNUM.out ho3
      have href3 := HREF.out.num HNUM.out ho3
      have hbox3 := HBOX.out.only ho3 (by omega)
      have hbr3 := HBR.out.only ho3 (by omega)
      have hbel3 := ho3.below_trans HBEL.out hsz (fun k hk => by omega)
      have HNUM3 := Lib.hid hn3
      have HLIS3 := Lib.hid hlis3
      have HREF3 := Lib.hid href3
      have HBOX3 := Lib.hid hbox3
      have HBEL3 := Lib.hid hbel3
      have HBR3 := Lib.hid hbr3
      clear hlis3 href3 hbox3 hbr3 hbel3 hn3 ho3 HNUM HLIS HREF HBOX HBEL HBR x1
      go_wp2_with fail
      refine (next_any w3 w.heap.size (w.heap.size + 1) n (N + 1) 6 HNUM3.out (by omega) (by omega) (by omega)).mono ?_
      rintro e w4 ⟨y, hy, rfl, ho4, hz4, hn4⟩
      have hlis3 := HLIS3.out.num HNUM3.out ho4
      have href3 := HREF3.out.num HNUM3.out ho4
      have hbox3 := HBOX3.out.only ho4 (by omega)
      have hbr3 := HBR3.out.only ho4 (by omega)
      have hbel3 := ho4.below_trans HBEL3.out (by omega) (fun k hk => by omega)
      have k0 := hbox3.cell 0
      have k1 := hbox3.cell 1
      have k2 := hbox3.cell 2
      have y0 := hbox3.frozen 0
      have y1 := hbox3.frozen 1
      have y2 := hbox3.frozen 2
      simp at k0 k1 k2
      have hsz4 := hbel3.size
      have HNUM4 := Lib.hid hn4
      have HLIS4 := Lib.hid hlis3
      have HREF4 := Lib.hid href3
      have HBOX4 := Lib.hid hbox3
      have HBEL4 := Lib.hid hbel3
      have HBR4 := Lib.hid hbr3
      clear hlis3 href3 hbox3 hbr3 hbel3 hn4 ho4 HNUM3 HLIS3 HREF3 HBOX3 HBEL3 HBR3 hz3 hz4
      obtain ⟨sl, hsl⟩ : ∃ sl : Int, (x : Int) - 1 = sl := ⟨_, rfl⟩
      have hs1 : -1 ≤ sl := by omega
      have hs2 : sl ≤ 8 := by omega
      have HSL := Lib.hid hsl
      have hsz5 : w.heap.size + 1 + 1 + 1 < w4.heap.size := HBOX4.out.lt
      have hall : ∀ w' (rv' ev' fv' : Value) (r' : R), Both w w.heap.size (w.heap.size + 1) (w.heap.size + 1 + 1) (w.heap.size + 1 + 1 + 1) n (N + 2) rv' ev' fv' r' w' → Blk w' w.heap.size 28 #[.slice none 0 0, .slice none 0 0, .int .i64 0] →
          (∃ N', BothAt w w.heap.size (w.heap.size + 1) (w.heap.size + 1 + 1) (w.heap.size + 1 + 1 + 1) w.heap.size n N' w' ∧ N' ≤ n + 1) ∧ n - numN w' (w.heap.size + 1) < n - numN wr (w.heap.size + 1) := fun w' rv' ev' fv' r' hb hr => by
        refine ⟨⟨N + 2, ⟨⟨rv', ev', fv', r', hb⟩, hr⟩, by omega⟩, ?_⟩
        rw [hb.num.numN, HQ.out]
        omega
      have HALL := Lib.hid hall
      clear hall
      rw [hsl]
      clear hsl
      have hyc : y = 0 ∨ y = 1 ∨ y = 2 ∨ y = 3 ∨ y = 4 ∨ y = 5 := by omega
      clear hx hy
      rcases hyc with rfl | rfl | rfl | rfl | rfl | rfl
      · have hT : Tri w w.heap.size (w.heap.size + 1) (w.heap.size + 1 + 1) n (N + 2) rv ev fv r r w4 := ⟨HNUM4.out, HLIS4.out, HREF4.out, HBEL4.out, hsz4⟩
        have HT := Lib.hid hT
        have hP := rpushBack_any w4 w.heap.size ev fv r (sl * 7) HREF4.out hsz4 (by have := HFEW.out.F; omega) (by have := HFEW.out.U; omega) (by have := HFEW.out.E; omega)
        have hf5 := few_pb HFEW.out (sl * 7)
        obtain ⟨r', hr'⟩ : ∃ r', pushBackR r (sl * 7) = r' := ⟨_, rfl⟩
        rw [hr'] at hP hf5
        have HP := Lib.hid hP
        have HF5 := Lib.hid (few_more hf5 (show N + 1 ≤ N + 2 by omega))
        have HR' := Lib.hid hr'
        clear hT hP hr' hf5
        go_wp2_with fail
        refine HP.out.mono ?_
        rintro e w5 ⟨ev5, fv5, rfl, hb5, hr5⟩
        obtain ⟨a5, c5, rfl⟩ := owns_form hr5.el
        obtain ⟨a6, c6, rfl⟩ := owns_form hr5.fr
        unfold refV
        have g5 := HBOX4.out.below hb5 HBOX4.out.lt
        have br5 := HBR4.out.below hb5 HBR4.out.lt
        have hlt5 := g5.lt
        have k0 := g5.cell 0
        have k1 := g5.cell 1
        have k2 := g5.cell 2
        have y0 := g5.frozen 0
        have y1 := g5.frozen 1
        have y2 := g5.frozen 2
        simp at k0 k1 k2
        have HT5 := Lib.hid (HT.out.ref_ hb5 hr5)
        have HG5 := Lib.hid g5
        have HBR5 := Lib.hid br5
        clear hb5 hr5 g5 br5
        go_wp2_with fail
        change Calls _ _ _ (set3 w5 (w.heap.size + 1 + 1 + 1) (.slice a5 r'.E.length c5) (.slice a6 r'.F.length c6) (.int .i64 (r'.U : Int))) _
        have hT6 := HT5.out.box_ HG5.out (set3_only w5 (w.heap.size + 1 + 1 + 1) (.slice a5 r'.E.length c5) (.slice a6 r'.F.length c6) (.int .i64 (r'.U : Int))) (by omega) (by omega)
        have g6 := set3_blk HG5.out (.slice a5 r'.E.length c5) (.slice a6 r'.F.length c6) (.int .i64 (r'.U : Int))
        have br6 := HBR5.out.only (set3_only w5 (w.heap.size + 1 + 1 + 1) (.slice a5 r'.E.length c5) (.slice a6 r'.F.length c6) (.int .i64 (r'.U : Int))) (by omega)
        generalize set3 w5 (w.heap.size + 1 + 1 + 1) (.slice a5 r'.E.length c5) (.slice a6 r'.F.length c6) (.int .i64 (r'.U : Int)) = w6 at hT6 g6 br6 ⊢
        refine (lpb_any w6 w.heap.size (w.heap.size + 1 + 1) rv r (sl * 7) hT6.lis hT6.sz (by have := HFEW.out.U; omega) (by have := HFEW.out.E; omega)).mono ?_
        rintro e w7 ⟨rfl, ho7, rv7, hl7⟩
        rw [HR'.out] at hl7
        have HT7 := Lib.hid (hT6.lis_ ho7 hl7)
        have HG7 := Lib.hid (hT6.lis.blk_ne g6 (by decide) (by decide) ho7)
        have HBR7 := Lib.hid (hT6.lis.blk_ne br6 (by decide) (by decide) ho7)
        clear hT6 g6 br6 ho7 hl7 k0 k1 k2 y0 y1 y2
        go_wp2_with fail
        have hfin := HALL.out w7 rv7 _ _ r' (HT7.out.both HG7.out HF5.out) HBR7.out
        go_roundw
        case rel => exact hfin.1
        case measure => exact hfin.2
      · have hT : Tri w w.heap.size (w.heap.size + 1) (w.heap.size + 1 + 1) n (N + 2) rv ev fv r r w4 := ⟨HNUM4.out, HLIS4.out, HREF4.out, HBEL4.out, hsz4⟩
        have HT := Lib.hid hT
        have hP := rpushBack_any w4 w.heap.size ev fv r (sl * 7) HREF4.out hsz4 (by have := HFEW.out.F; omega) (by have := HFEW.out.U; omega) (by have := HFEW.out.E; omega)
        have hf5 := few_pb HFEW.out (sl * 7)
        obtain ⟨r', hr'⟩ : ∃ r', pushBackR r (sl * 7) = r' := ⟨_, rfl⟩
        rw [hr'] at hP hf5
        have HP := Lib.hid hP
        have HF5 := Lib.hid (few_more hf5 (show N + 1 ≤ N + 2 by omega))
        have HR' := Lib.hid hr'
        clear hT hP hr' hf5
        go_wp2_with fail
        refine HP.out.mono ?_
        rintro e w5 ⟨ev5, fv5, rfl, hb5, hr5⟩
        obtain ⟨a5, c5, rfl⟩ := owns_form hr5.el
        obtain ⟨a6, c6, rfl⟩ := owns_form hr5.fr
        unfold refV
        have g5 := HBOX4.out.below hb5 HBOX4.out.lt
        have br5 := HBR4.out.below hb5 HBR4.out.lt
        have hlt5 := g5.lt
        have k0 := g5.cell 0
        have k1 := g5.cell 1
        have k2 := g5.cell 2
        have y0 := g5.frozen 0
        have y1 := g5.frozen 1
        have y2 := g5.frozen 2
        simp at k0 k1 k2
        have HT5 := Lib.hid (HT.out.ref_ hb5 hr5)
        have HG5 := Lib.hid g5
        have HBR5 := Lib.hid br5
        clear hb5 hr5 g5 br5
        go_wp2_with fail
        change Calls _ _ _ (set3 w5 (w.heap.size + 1 + 1 + 1) (.slice a5 r'.E.length c5) (.slice a6 r'.F.length c6) (.int .i64 (r'.U : Int))) _
        have hT6 := HT5.out.box_ HG5.out (set3_only w5 (w.heap.size + 1 + 1 + 1) (.slice a5 r'.E.length c5) (.slice a6 r'.F.length c6) (.int .i64 (r'.U : Int))) (by omega) (by omega)
        have g6 := set3_blk HG5.out (.slice a5 r'.E.length c5) (.slice a6 r'.F.length c6) (.int .i64 (r'.U : Int))
        have br6 := HBR5.out.only (set3_only w5 (w.heap.size + 1 + 1 + 1) (.slice a5 r'.E.length c5) (.slice a6 r'.F.length c6) (.int .i64 (r'.U : Int))) (by omega)
        generalize set3 w5 (w.heap.size + 1 + 1 + 1) (.slice a5 r'.E.length c5) (.slice a6 r'.F.length c6) (.int .i64 (r'.U : Int)) = w6 at hT6 g6 br6 ⊢
        refine (lpb_any w6 w.heap.size (w.heap.size + 1 + 1) rv r (sl * 7) hT6.lis hT6.sz (by have := HFEW.out.U; omega) (by have := HFEW.out.E; omega)).mono ?_
        rintro e w7 ⟨rfl, ho7, rv7, hl7⟩
        rw [HR'.out] at hl7
        have HT7 := Lib.hid (hT6.lis_ ho7 hl7)
        have HG7 := Lib.hid (hT6.lis.blk_ne g6 (by decide) (by decide) ho7)
        have HBR7 := Lib.hid (hT6.lis.blk_ne br6 (by decide) (by decide) ho7)
        clear hT6 g6 br6 ho7 hl7 k0 k1 k2 y0 y1 y2
        go_wp2_with fail
        have hfin := HALL.out w7 rv7 _ _ r' (HT7.out.both HG7.out HF5.out) HBR7.out
        go_roundw
        case rel => exact hfin.1
        case measure => exact hfin.2
      · have hT : Tri w w.heap.size (w.heap.size + 1) (w.heap.size + 1 + 1) n (N + 2) rv ev fv r r w4 := ⟨HNUM4.out, HLIS4.out, HREF4.out, HBEL4.out, hsz4⟩
        have HT := Lib.hid hT
        have hP := rpushFront_any w4 w.heap.size ev fv r sl HREF4.out hsz4 (by have := HFEW.out.F; omega) (by have := HFEW.out.U; omega) (by have := HFEW.out.E; omega)
        have hf5 := few_pf HFEW.out sl
        obtain ⟨r', hr'⟩ : ∃ r', pushFrontR r sl = r' := ⟨_, rfl⟩
        rw [hr'] at hP hf5
        have HP := Lib.hid hP
        have HF5 := Lib.hid (few_more hf5 (show N + 1 ≤ N + 2 by omega))
        have HR' := Lib.hid hr'
        clear hT hP hr' hf5
        go_wp2_with fail
        refine HP.out.mono ?_
        rintro e w5 ⟨ev5, fv5, rfl, hb5, hr5⟩
        obtain ⟨a5, c5, rfl⟩ := owns_form hr5.el
        obtain ⟨a6, c6, rfl⟩ := owns_form hr5.fr
        unfold refV
        have g5 := HBOX4.out.below hb5 HBOX4.out.lt
        have br5 := HBR4.out.below hb5 HBR4.out.lt
        have hlt5 := g5.lt
        have k0 := g5.cell 0
        have k1 := g5.cell 1
        have k2 := g5.cell 2
        have y0 := g5.frozen 0
        have y1 := g5.frozen 1
        have y2 := g5.frozen 2
        simp at k0 k1 k2
        have HT5 := Lib.hid (HT.out.ref_ hb5 hr5)
        have HG5 := Lib.hid g5
        have HBR5 := Lib.hid br5
        clear hb5 hr5 g5 br5
        go_wp2_with fail
        change Calls _ _ _ (set3 w5 (w.heap.size + 1 + 1 + 1) (.slice a5 r'.E.length c5) (.slice a6 r'.F.length c6) (.int .i64 (r'.U : Int))) _
        have hT6 := HT5.out.box_ HG5.out (set3_only w5 (w.heap.size + 1 + 1 + 1) (.slice a5 r'.E.length c5) (.slice a6 r'.F.length c6) (.int .i64 (r'.U : Int))) (by omega) (by omega)
        have g6 := set3_blk HG5.out (.slice a5 r'.E.length c5) (.slice a6 r'.F.length c6) (.int .i64 (r'.U : Int))
        have br6 := HBR5.out.only (set3_only w5 (w.heap.size + 1 + 1 + 1) (.slice a5 r'.E.length c5) (.slice a6 r'.F.length c6) (.int .i64 (r'.U : Int))) (by omega)
        generalize set3 w5 (w.heap.size + 1 + 1 + 1) (.slice a5 r'.E.length c5) (.slice a6 r'.F.length c6) (.int .i64 (r'.U : Int)) = w6 at hT6 g6 br6 ⊢
        refine (lpf_any w6 w.heap.size (w.heap.size + 1 + 1) rv r sl hT6.lis hT6.sz (by have := HFEW.out.U; omega) (by have := HFEW.out.E; omega)).mono ?_
        rintro e w7 ⟨rfl, ho7, rv7, hl7⟩
        rw [HR'.out] at hl7
        have HT7 := Lib.hid (hT6.lis_ ho7 hl7)
        have HG7 := Lib.hid (hT6.lis.blk_ne g6 (by decide) (by decide) ho7)
        have HBR7 := Lib.hid (hT6.lis.blk_ne br6 (by decide) (by decide) ho7)
        clear hT6 g6 br6 ho7 hl7 k0 k1 k2 y0 y1 y2
        go_wp2_with fail
        have hfin := HALL.out w7 rv7 _ _ r' (HT7.out.both HG7.out HF5.out) HBR7.out
        go_roundw
        case rel => exact hfin.1
        case measure => exact hfin.2
      · have hT : Tri w w.heap.size (w.heap.size + 1) (w.heap.size + 1 + 1) n (N + 2) rv ev fv r r w4 := ⟨HNUM4.out, HLIS4.out, HREF4.out, HBEL4.out, hsz4⟩
        have HT := Lib.hid hT
        have hP := rdrop_any w4 w.heap.size ev fv r sl HREF4.out hsz4 (by have := HFEW.out.E; omega) (by have := HFEW.out.F; omega)
        have hf5 := few_drop HFEW.out sl
        obtain ⟨r', hr'⟩ : ∃ r', dropR r sl = r' := ⟨_, rfl⟩
        rw [hr'] at hP hf5
        have HP := Lib.hid hP
        have HF5 := Lib.hid (few_more hf5 (show N + 1 ≤ N + 2 by omega))
        have HR' := Lib.hid hr'
        clear hT hP hr' hf5
        go_wp2_with fail
        refine HP.out.mono ?_
        rintro e w5 ⟨ev5, fv5, rfl, hb5, hr5⟩
        obtain ⟨a5, c5, rfl⟩ := owns_form hr5.el
        obtain ⟨a6, c6, rfl⟩ := owns_form hr5.fr
        unfold refV
        have g5 := HBOX4.out.below hb5 HBOX4.out.lt
        have br5 := HBR4.out.below hb5 HBR4.out.lt
        have hlt5 := g5.lt
        have HT5 := Lib.hid (HT.out.ref_ hb5 hr5)
        have HG5 := Lib.hid g5
        have HBR5 := Lib.hid br5
        clear hb5 hr5 g5 br5 k0 k1 k2 y0 y1 y2
        go_wp2_with fail
        have ha6 : Below w5.heap.size w5 (w5.alloc (.cells #[.slice a5 r'.E.length c5, .slice a6 r'.F.length c6, .int .i64 (r'.U : Int)] 28)) := (Below.refl _ _).alloc (Nat.le_refl _) _
        have hT6 := HT5.out.below ha6
        have g6 := HG5.out.alloc (.cells #[.slice a5 r'.E.length c5, .slice a6 r'.F.length c6, .int .i64 (r'.U : Int)] 28)
        have br6 := HBR5.out.alloc (.cells #[.slice a5 r'.E.length c5, .slice a6 r'.F.length c6, .int .i64 (r'.U : Int)] 28)
        have nb6 := Blk.new w5 28 #[.slice a5 r'.E.length c5, .slice a6 r'.F.length c6, .int .i64 (r'.U : Int)]
        generalize World.alloc w5 _ = w6 at ha6 hT6 g6 br6 nb6 ⊢
        refine (lrem_any w6 w.heap.size (w.heap.size + 1 + 1) rv r sl hT6.lis hT6.sz (by have := HFEW.out.E; omega)).mono ?_
        rintro e w7 ⟨rfl, ho7, rv7, hl7⟩
        rw [HR'.out] at hl7
        have g7 := hT6.lis.blk_ne g6 (by decide) (by decide) ho7
        have nb7 := hT6.lis.blk_ne nb6 (by decide) (by decide) ho7
        have HT7 := Lib.hid (hT6.lis_ ho7 hl7)
        have HBR7 := Lib.hid (hT6.lis.blk_ne br6 (by decide) (by decide) ho7)
        have k0 := g7.cell 0
        have k1 := g7.cell 1
        have k2 := g7.cell 2
        have y0 := g7.frozen 0
        have y1 := g7.frozen 1
        have y2 := g7.frozen 2
        simp at k0 k1 k2
        have m0 := nb7.cell 0
        have m1 := nb7.cell 1
        have m2 := nb7.cell 2
        simp at m0 m1 m2
        have HG7 := Lib.hid g7
        clear hT6 g6 br6 ho7 hl7 nb6 nb7 g7 ha6
        go_wp2_with fail
        have hT8 := HT7.out.box_ HG7.out (set3_only w7 (w.heap.size + 1 + 1 + 1) (.slice a5 r'.E.length c5) (.slice a6 r'.F.length c6) (.int .i64 (r'.U : Int))) (by omega) (by omega)
        exact HALL.out _ rv7 _ _ r' (hT8.both (set3_blk HG7.out _ _ _) HF5.out) (HBR7.out.only (set3_only _ _ _ _ _) (by omega))
      · have hT : Tri w w.heap.size (w.heap.size + 1) (w.heap.size + 1 + 1) n (N + 2) rv ev fv r r w4 := ⟨HNUM4.out, HLIS4.out, HREF4.out, HBEL4.out, hsz4⟩
        have HT := Lib.hid hT
        have hP := rdrop_any w4 w.heap.size ev fv r sl HREF4.out hsz4 (by have := HFEW.out.E; omega) (by have := HFEW.out.F; omega)
        have hf5 := few_drop HFEW.out sl
        obtain ⟨r', hr'⟩ : ∃ r', dropR r sl = r' := ⟨_, rfl⟩
        rw [hr'] at hP hf5
        have HP := Lib.hid hP
        have HF5 := Lib.hid (few_more hf5 (show N + 1 ≤ N + 2 by omega))
        have HR' := Lib.hid hr'
        clear hT hP hr' hf5
        go_wp2_with fail
        refine HP.out.mono ?_
        rintro e w5 ⟨ev5, fv5, rfl, hb5, hr5⟩
        obtain ⟨a5, c5, rfl⟩ := owns_form hr5.el
        obtain ⟨a6, c6, rfl⟩ := owns_form hr5.fr
        unfold refV
        have g5 := HBOX4.out.below hb5 HBOX4.out.lt
        have br5 := HBR4.out.below hb5 HBR4.out.lt
        have hlt5 := g5.lt
        have HT5 := Lib.hid (HT.out.ref_ hb5 hr5)
        have HG5 := Lib.hid g5
        have HBR5 := Lib.hid br5
        clear hb5 hr5 g5 br5 k0 k1 k2 y0 y1 y2
        go_wp2_with fail
        have ha6 : Below w5.heap.size w5 (w5.alloc (.cells #[.slice a5 r'.E.length c5, .slice a6 r'.F.length c6, .int .i64 (r'.U : Int)] 28)) := (Below.refl _ _).alloc (Nat.le_refl _) _
        have hT6 := HT5.out.below ha6
        have g6 := HG5.out.alloc (.cells #[.slice a5 r'.E.length c5, .slice a6 r'.F.length c6, .int .i64 (r'.U : Int)] 28)
        have br6 := HBR5.out.alloc (.cells #[.slice a5 r'.E.length c5, .slice a6 r'.F.length c6, .int .i64 (r'.U : Int)] 28)
        have nb6 := Blk.new w5 28 #[.slice a5 r'.E.length c5, .slice a6 r'.F.length c6, .int .i64 (r'.U : Int)]
        generalize World.alloc w5 _ = w6 at ha6 hT6 g6 br6 nb6 ⊢
        refine (lrem_any w6 w.heap.size (w.heap.size + 1 + 1) rv r sl hT6.lis hT6.sz (by have := HFEW.out.E; omega)).mono ?_
        rintro e w7 ⟨rfl, ho7, rv7, hl7⟩
        rw [HR'.out] at hl7
        have g7 := hT6.lis.blk_ne g6 (by decide) (by decide) ho7
        have nb7 := hT6.lis.blk_ne nb6 (by decide) (by decide) ho7
        have HT7 := Lib.hid (hT6.lis_ ho7 hl7)
        have HBR7 := Lib.hid (hT6.lis.blk_ne br6 (by decide) (by decide) ho7)
        have k0 := g7.cell 0
        have k1 := g7.cell 1
        have k2 := g7.cell 2
        have y0 := g7.frozen 0
        have y1 := g7.frozen 1
        have y2 := g7.frozen 2
        simp at k0 k1 k2
        have m0 := nb7.cell 0
        have m1 := nb7.cell 1
        have m2 := nb7.cell 2
        simp at m0 m1 m2
        have HG7 := Lib.hid g7
        clear hT6 g6 br6 ho7 hl7 nb6 nb7 g7 ha6
        go_wp2_with fail
        have hT8 := HT7.out.box_ HG7.out (set3_only w7 (w.heap.size + 1 + 1 + 1) (.slice a5 r'.E.length c5) (.slice a6 r'.F.length c6) (.int .i64 (r'.U : Int))) (by omega) (by omega)
        exact HALL.out _ rv7 _ _ r' (hT8.both (set3_blk HG7.out _ _ _) HF5.out) (HBR7.out.only (set3_only _ _ _ _ _) (by omega))
      · have hT : Tri w w.heap.size (w.heap.size + 1) (w.heap.size + 1 + 1) n (N + 2) rv ev fv r r w4 := ⟨HNUM4.out, HLIS4.out, HREF4.out, HBEL4.out, hsz4⟩
        have HT := Lib.hid hT
        have hP := rturn_any w4 w.heap.size ev fv r sl HREF4.out hsz4 (by have := HFEW.out.E; omega)
        have hf5 := few_turn HFEW.out sl
        obtain ⟨r', hr'⟩ : ∃ r', turnR r sl = r' := ⟨_, rfl⟩
        rw [hr'] at hP hf5
        have HP := Lib.hid hP
        have HF5 := Lib.hid (few_more hf5 (show N + 1 ≤ N + 2 by omega))
        have HR' := Lib.hid hr'
        clear hT hP hr' hf5
        go_wp2_with fail
        refine HP.out.mono ?_
        rintro e w5 ⟨ev5, fv5, rfl, hb5, hr5⟩
        obtain ⟨a5, c5, rfl⟩ := owns_form hr5.el
        obtain ⟨a6, c6, rfl⟩ := owns_form hr5.fr
        unfold refV
        have g5 := HBOX4.out.below hb5 HBOX4.out.lt
        have br5 := HBR4.out.below hb5 HBR4.out.lt
        have hlt5 := g5.lt
        have HT5 := Lib.hid (HT.out.ref_ hb5 hr5)
        have HG5 := Lib.hid g5
        have HBR5 := Lib.hid br5
        clear hb5 hr5 g5 br5 k0 k1 k2 y0 y1 y2
        go_wp2_with fail
        have ha6 : Below w5.heap.size w5 (w5.alloc (.cells #[.slice a5 r'.E.length c5, .slice a6 r'.F.length c6, .int .i64 (r'.U : Int)] 28)) := (Below.refl _ _).alloc (Nat.le_refl _) _
        have hT6 := HT5.out.below ha6
        have g6 := HG5.out.alloc (.cells #[.slice a5 r'.E.length c5, .slice a6 r'.F.length c6, .int .i64 (r'.U : Int)] 28)
        have br6 := HBR5.out.alloc (.cells #[.slice a5 r'.E.length c5, .slice a6 r'.F.length c6, .int .i64 (r'.U : Int)] 28)
        have nb6 := Blk.new w5 28 #[.slice a5 r'.E.length c5, .slice a6 r'.F.length c6, .int .i64 (r'.U : Int)]
        generalize World.alloc w5 _ = w6 at ha6 hT6 g6 br6 nb6 ⊢
        refine (lmov_any w6 w.heap.size (w.heap.size + 1 + 1) rv r sl hT6.lis hT6.sz (by have := HFEW.out.E; omega)).mono ?_
        rintro e w7 ⟨rfl, ho7, rv7, hl7⟩
        rw [HR'.out] at hl7
        have g7 := hT6.lis.blk_ne g6 (by decide) (by decide) ho7
        have nb7 := hT6.lis.blk_ne nb6 (by decide) (by decide) ho7
        have HT7 := Lib.hid (hT6.lis_ ho7 hl7)
        have HBR7 := Lib.hid (hT6.lis.blk_ne br6 (by decide) (by decide) ho7)
        have k0 := g7.cell 0
        have k1 := g7.cell 1
        have k2 := g7.cell 2
        have y0 := g7.frozen 0
        have y1 := g7.frozen 1
        have y2 := g7.frozen 2
        simp at k0 k1 k2
        have m0 := nb7.cell 0
        have m1 := nb7.cell 1
        have m2 := nb7.cell 2
        simp at m0 m1 m2
        have HG7 := Lib.hid g7
        clear hT6 g6 br6 ho7 hl7 nb6 nb7 g7 ha6
        go_wp2_with fail
        have hT8 := HT7.out.box_ HG7.out (set3_only w7 (w.heap.size + 1 + 1 + 1) (.slice a5 r'.E.length c5) (.slice a6 r'.F.length c6) (.int .i64 (r'.U : Int))) (by omega) (by omega)
        exact HALL.out _ rv7 _ _ r' (hT8.both (set3_blk HG7.out _ _ _) HF5.out) (HBR7.out.only (set3_only _ _ _ _ _) (by omega))
    · have hge' : ¬ ((N : Int) < n) := by omega
      have HNUM := Lib.hid hnum
      have HLIS := Lib.hid hlis
      have HREF := Lib.hid href
      have HBOX := Lib.hid hbox
      have HBEL := Lib.hid hbel
      have HFEW := Lib.hid (few_more hfew hN)
      have HBR := Lib.hid hbr
      obtain ⟨a5, c5, rfl⟩ := owns_form href.el
      obtain ⟨a6, c6, rfl⟩ := owns_form href.fr
      have hsz := hbel.size
      have hbl := hbox.lt
      have k0 := hbox.cell 0
      have k1 := hbox.cell 1
      have k2 := hbox.cell 2
      have z0 := hbr.cell 0
      have z1 := hbr.cell 1
      have z2 := hbr.cell 2
      simp at k0 k1 k2 z0 z1 z2
      have y0 := hbr.frozen 0
      have y1 := hbr.frozen 1
      have y2 := hbr.frozen 2
      clear hnum hlis href hbox hbel hfew hbr hbn hq
      go_wp2_with fail
      go_region
      all_goals
        go_wp2
        have hT : Tri w w.heap.size (w.heap.size + 1) (w.heap.size + 1 + 1) n N rv (.slice a5 r.E.length c5) (.slice a6 r.F.length c6) r r wr := ⟨HNUM.out, HLIS.out, HREF.out, HBEL.out, hsz⟩
        have hT8 := hT.box_ HBR.out ((set3_only wr w.heap.size (.slice a5 r.E.length c5) (.slice a6 r.F.length c6) (.int .i64 (r.U : Int))).drew_) (Nat.le_refl _) (by omega)
        exact bodyPost_ret (results_tct rfl _ _ w.heap.size _ _ (0, 0) _ rfl (set3_blk HBR.out _ _ _) Try.underlying28 rfl (by kernel_rfl)) rfl ⟨_, _, _, _, r, rfl, hT8.bel, hT8.lis, hT8.ref, HFEW.out⟩
end Go.Proofs.Ytlkpdmblhejnhaa
