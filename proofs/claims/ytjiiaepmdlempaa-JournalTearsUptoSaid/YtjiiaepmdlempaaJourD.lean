/- Read, ReadLog and Repair of a journal. -/
import Derived.Test.YtjiiaepmdlempaaJourC
namespace Go.Proofs.Ytjiiaepmdlempaa
open Go.RowKit
set_option linter.unusedVariables false
open ShaW Sha

theorem sl_info : (Try.prog.info? 22).map (fun i => (i.zero, i.size, i.bytes)) = some (some (.slice none 0 0), 1, 24) := by kernel_rfl
theorem lit_cell' (w : World) (C : Array Value) (e : TypeId) (fr : Nat × Nat) (i : Nat) : (w.alloc (.cells C e fr)).cell? ⟨w.heap.size, i, none⟩ = C[i]? := cell_of_row _ _ _ _ _ _ (heap_alloc_new w _)
def rowsL (rs : List (Nat × Nat)) (r : Nat) : Nat := (rs.getD r (0, 0)).2
def rowsF (rs : List (Nat × Nat)) (f : Nat → UInt8) (r : Nat) : Nat → UInt8 := from_ (rs.getD r (0, 0)).1 f
theorem getD_snoc_lt {rs : List (Nat × Nat)} {x : Nat × Nat} {r : Nat} (h : r < rs.length) : (rs ++ [x]).getD r (0, 0) = rs.getD r (0, 0) := by
  simp [List.getD_eq_getElem?_getD, List.getElem?_append_left h]
theorem getD_snoc_eq {rs : List (Nat × Nat)} {x : Nat × Nat} : (rs ++ [x]).getD rs.length (0, 0) = x := by
  simp [List.getD_eq_getElem?_getD]
theorem own_form {w : World} {base n : Nat} {e : TypeId} {v : Value} {xs : List Value} (h : w.ownsRow base e 1 v n xs) : ∃ A c, v = .slice A n c := by
  rcases h.2 with ⟨rfl, rfl⟩ | ⟨g', cap, cur, rfl, _⟩
  · exact ⟨_, _, rfl⟩
  · exact ⟨_, _, rfl⟩
/-- the loop of Read behind some records -/
def ReadAt (w wr : World) (n : Nat) (f : Nat → UInt8) (v i : Value) (u : Nat) (rs : List (Nat × Nat)) : Prop :=
  u ≤ n ∧ rs.length ≤ u ∧ i = .int .i64 (u : Int) ∧ ListB wr w.heap.size v rs.length (rowsL rs) (rowsF rs f) ∧ readFrom n 0 f = (rs ++ (readFrom n u f).1, (readFrom n u f).2) ∧ Below w.heap.size w wr
/-- what Read returns -/
def ReadPost (w w' : World) (n : Nat) (f : Nat → UInt8) (e : Ending) : Prop :=
  ∃ v, e = .returned (.tuple #[v, .int .i64 ((readFrom n 0 f).2 : Int)]) ∧ ListB w' w.heap.size v (readFrom n 0 f).1.length (rowsL (readFrom n 0 f).1) (rowsF (readFrom n 0 f).1 f) ∧ Below w.heap.size w w'
theorem ReadAt.stop {w wr : World} {n u : Nat} {f : Nat → UInt8} {v i : Value} {rs : List (Nat × Nat)} (h : ReadAt w wr n f v i u rs) (hn : recAt (n - u) (from_ u f) = none) {wr' : World} (hb : Below wr.heap.size wr wr') : ReadPost w wr' n f (.returned (.tuple #[v, .int .i64 (u : Int)])) := by
  obtain ⟨h1, hlen, h2, h3, h4, h5⟩ := h
  rw [readFrom_none hn, List.append_nil] at h4
  unfold ReadPost
  rw [h4]
  exact ⟨v, rfl, h3.below hb, h5.trans (hb.mono h5.size)⟩
theorem ReadAt.next {w wr w1 w2 : World} {n u m : Nat} {f : Nat → UInt8} {v v' y i : Value} {rs : List (Nat × Nat)} {xs : List Value} (h : ReadAt w wr n f v i u rs) (hn : recAt (n - u) (from_ u f) = some m)
    (h1 : w1.ownsRow w.heap.size 22 1 v rs.length xs) (h2 : ∀ r, r < rs.length → ∃ u, xs[r]? = some u ∧ w1.ownsRow w.heap.size 5 1 u (rowsL rs r) (bytesOf (rowsL rs r) (rowsF rs f r)))
    (hb : Below w.heap.size w w1) (hy : w1.ownsRow w.heap.size 5 1 y m (bytesOf m (from_ (u + 8) f)))
    (hv : w2.ownsRow w.heap.size 22 1 v' (rs.length + 1) (xs ++ [y])) (hg : w1.grownBy w2 v.ownBlock) : ReadAt w w2 n f v' (.int .i64 ((u : Int) + (8 + (m : Int)))) (u + (8 + m)) (rs ++ [(u + 8, m)]) := by
  obtain ⟨k1, hlen, k2, k3, k4, k5⟩ := h
  have hle := (recAt_le hn).1
  refine ⟨by omega, by simp only [List.length_append, List.length_singleton]; omega, by congr 1, ?_, ?_, hb.grown hg hb.size (fun g e => (h1.lt g e).1)⟩
  · rw [List.length_append]
    refine ListB.snoc (L := rowsL (rs ++ [(u + 8, m)])) (F := rowsF (rs ++ [(u + 8, m)]) f) h1 (fun r hr => ?_) hy hv hg (by unfold rowsL; rw [getD_snoc_eq]) (by unfold rowsF; rw [getD_snoc_eq])
    obtain ⟨z, e, hz⟩ := h2 r hr
    refine ⟨z, e, ?_⟩
    unfold rowsL rowsF
    rw [getD_snoc_lt hr]
    exact hz
  · rw [k4, readFrom_some hn, show u + 8 + m = u + (8 + m) by omega]
    simp

set_option maxRecDepth 100000 in
set_option maxHeartbeats 1000000 in
theorem read_any (w : World) (b o c n : Nat) (f : Nat → UInt8) (hn : n ≤ 1099511627776) (hnc : n ≤ c) (hcm : c ≤ maxLen) (hc : ∀ j, j < n → w.cell? ⟨b, o + j, none⟩ = some (.int .u8 ((f j).toNat : Int))) :
    Calls Try.prog 14 #[.slice (some ⟨b, o, none⟩) n c] w fun e w' => ReadPost w w' n f e := by
  obtain ⟨i0, hi0, hz0, hz1, hz2⟩ := info_parts sl_info
  have hcm2 : c ≤ 9223372036854775807 := hcm
  have hbl : 0 < n → b < w.heap.size := fun h => World.block_lt_of_cell? w _ (hc 0 h)
  have HC := Lib.hid hc
  have HBL := Lib.hid hbl
  clear hc hbl hcm
  go_enter Try.func14, Try.ntmps14
  go_wp2_with fail
  go_loopw [2, 3] (fun v i wr => ∃ u rs, ReadAt w wr n f v i u rs) (fun _ i _ => n - (intOf i).toNat)
  case atStart => exact ⟨0, [], by omega, by simp, rfl, ListB.nil _ _ _ _, by simp, Below.refl _ _⟩
  case round =>
    obtain ⟨u, rs, hat⟩ := hrel
    obtain ⟨hun, hlen, rfl, hlist, _, hbel⟩ := id hat
    have hz := hbel.size
    obtain ⟨Av, cv, rfl⟩ : ∃ A c, _ = Value.slice A rs.length c := by
      obtain ⟨xs, hx, _⟩ := hlist
      exact own_form hx
    have HAT := Lib.hid hat
    have HLI := Lib.hid hlist
    have HBE := Lib.hid hbel
    clear hat hlist hbel
    have q0 : 0 ≤ (u : Int) := by omega
    have q1 : (u : Int) ≤ n := by omega
    by_cases h8 : n - u < 8
    · have hno : Hid (recAt (n - u) (from_ u f) = none) := by show _ = _; unfold recAt; rw [if_pos h8]
      go_wp2_with fail
      all_goals
        refine (first_short _ _ _ _ (by omega)).mono ?_
        rintro e w1 ⟨rfl, rfl⟩
        go_wp2_with fail
        go_ret2
        exact HAT.out.stop hno.out (Below.refl _ _)
    · have hcu : ¬ c = u := by omega
      go_wp2_with fail
      refine (first_any _ b (o + u) (c - u) (n - u) (from_ u f) (by omega) (by omega) (fun j hj => ?_) (by omega)).mono ?_
      · rw [Nat.add_assoc]
        have h0 := HC.out (u + j) (by omega)
        exact (HBE.out.cell (p := ⟨b, o + (u + j), none⟩) (HBL.out (by omega))).trans h0
      rintro e w1 ⟨rfl, hb1⟩
      have HB1 := Lib.hid hb1
      clear hb1
      cases hrec : recAt (n - u) (from_ u f) with
      | none =>
        rw [firstLen_none hrec]
        have HREC := Lib.hid hrec
        clear hrec
        go_wp2_with fail
        go_ret2
        exact HAT.out.stop HREC.out HB1.out
      | some m =>
        rw [firstLen_some hrec]
        have hle := (recAt_le hrec).1
        have HREC := Lib.hid hrec
        clear hrec
        have q2 : ¬ ((8 + m : Nat) : Int) = 0 := by omega
        have q3 : IntKind.i64.wrap ((u : Int) + 8) = ((u + 8 : Nat) : Int) := IntWalk.i64_in _ (by omega)
        have q4 : IntKind.i64.wrap ((u : Int) + ((8 + m : Nat) : Int)) = ((u + (8 + m) : Nat) : Int) := IntWalk.i64_in _ (by omega)
        have q5 : ((u + 8 : Nat) : Int) ≤ ((u + (8 + m) : Nat) : Int) := by omega
        have q6 : ((u + (8 + m) : Nat) : Int) ≤ c := by omega
        have q7 : u + (8 + m) - (u + 8) = m := by omega
        have hrd : Reads w1 w1.heap.size 1 (some ⟨b, o + (u + 8), none⟩) m (bytesOf m (from_ (u + 8) f)) := by
          have hb := HBE.out.trans (HB1.out.mono hz)
          refine Reads.flat (o := o + (u + 8)) (fun h => ⟨rfl, Nat.lt_of_lt_of_le (HBL.out (by omega)) hb.size⟩) (fun j hj => ?_)
          rw [Nat.add_assoc]
          exact (hb.cell (p := ⟨b, o + (u + 8 + j), none⟩) (HBL.out (by omega))).trans (HC.out (u + 8 + j) (by omega))
        have HRD := Lib.hid hrd
        clear hrd
        have hcase : c = u + 8 ∨ ¬ c = u + 8 := by omega
        rcases hcase with rfl | hcc
        all_goals
          go_wp2_with fail
          refine (clone_any _ _ m _ (from_ (u + 8) f) (by first | exact HRD.out | exact Reads.flat (g := b) (o := o) (fun h => absurd h (by omega)) (fun j hj => absurd hj (by omega))) (by omega)).mono ?_
          rintro e w2 ⟨A2, c2, rfl, hb2, ho2⟩
          have hzB := HB1.out.size
          have hz2' := hb2.size
          have hb3 : Below wr.heap.size wr (w2.alloc (.cells #[.slice A2 m c2] 22)) := (HB1.out.trans (hb2.mono hzB)).alloc (by omega) _
          have hli := HLI.out.below hb3
          obtain ⟨xs, hx1, hx2⟩ := hli
          have hy : (w2.alloc (.cells #[.slice A2 m c2] 22)).ownsRow w.heap.size 5 1 (.slice A2 m c2) m (bytesOf m (from_ (u + 8) f)) := owns_base (owns_below ho2 ((Below.refl _ _).alloc (Nat.le_refl _) _)) (by omega)
          have hnews : Reads (w2.alloc (.cells #[.slice A2 m c2] 22)) (w2.alloc (.cells #[.slice A2 m c2] 22)).heap.size 1 (some ⟨w2.heap.size, 0, none⟩) 1 [.slice A2 m c2] := by
            refine ⟨rfl, fun _ => ⟨⟨w2.heap.size, 0, none⟩, rfl, by rw [World.size_alloc]; exact Nat.lt_succ_self _, fun j u hu => ?_⟩⟩
            rcases j with _ | j
            · injection hu with hu
              subst hu
              rw [add_flat]
              exact lit_cell' _ _ _ _ _
            · simp at hu
          have HX1 := Lib.hid hx1
          have HX2 := Lib.hid hx2
          have HY := Lib.hid hy
          have HNW := Lib.hid hnews
          have HB3 := Lib.hid (HBE.out.trans (hb3.mono hz))
          clear hb2 ho2 hb3 hx1 hx2 hy hnews
          have hlen2 : rs.length + 1 ≤ maxLen := by unfold maxLen; omega
          go_wp2_with (first
            | (at_builtin
               refine wpList_append_any _ rfl (.tmp 13) (.tmp 22) _ rfl w.heap.size 22 i0 _ 1 24 Try.underlying23 hi0 hz0 hz1 hz2 rfl (by omega) _ rs.length xs rfl
                 HX1.out _ _ 1 1 _ rfl HNW.out (by intro u hu; simp at hu; subst hu; rfl) hlen2 (by omega) (by rw [World.size_alloc]; omega) ?_
               intro v3 w3 hown3 hg3 hat3
               have hat' := HAT.out.next HREC.out HX1.out HX2.out HB3.out HY.out hown3 hg3
               have HAT3 := Lib.hid hat'
               clear hown3 hg3 hat3 hat'))
          go_roundw
          case rel => exact ⟨_, _, HAT3.out⟩
          case measure => simp [intOf]; omega

set_option maxRecDepth 100000 in
set_option maxHeartbeats 1000000 in
theorem readlog_any (w : World) (b o c n : Nat) (f : Nat → UInt8) (hn : n ≤ 1099511627776) (hnc : n ≤ c) (hcm : c ≤ maxLen) (hc : ∀ j, j < n → w.cell? ⟨b, o + j, none⟩ = some (.int .u8 ((f j).toNat : Int))) :
    Calls Try.prog 15 #[.slice (some ⟨b, o, none⟩) n c] w fun e w' => ReadPost w w' n f e := by
  obtain ⟨i0, hi0, hz0, hz1, hz2⟩ := info_parts sl_info
  obtain ⟨iu, hiu, hzu0, hzu1, hzu2⟩ := info_parts u8_info
  have hcm2 : c ≤ 9223372036854775807 := hcm
  have hbl : 0 < n → b < w.heap.size := fun h => World.block_lt_of_cell? w _ (hc 0 h)
  have HC := Lib.hid hc
  have HBL := Lib.hid hbl
  clear hc hbl hcm
  go_enter Try.func15, Try.ntmps15
  go_wp2_with fail
  go_loopw [4, 5] (fun v i wr => ∃ u rs, ReadAt w wr n f v i u rs) (fun _ i _ => n - (intOf i).toNat)
  case atStart => exact ⟨0, [], by omega, by simp, rfl, ListB.nil _ _ _ _, by simp, Below.refl _ _⟩
  case round =>
    obtain ⟨u, rs, hat⟩ := hrel
    obtain ⟨hun, hlen, rfl, hlist, _, hbel⟩ := id hat
    have hz := hbel.size
    obtain ⟨Av, cv, rfl⟩ : ∃ A c, _ = Value.slice A rs.length c := by
      obtain ⟨xs, hx, _⟩ := hlist
      exact own_form hx
    have HAT := Lib.hid hat
    have HLI := Lib.hid hlist
    have HBE := Lib.hid hbel
    clear hat hlist hbel
    have q0 : 0 ≤ (u : Int) := by omega
    have q1 : (u : Int) ≤ n := by omega
    by_cases h8 : n - u < 8
    · have hno : Hid (recAt (n - u) (from_ u f) = none) := by show _ = _; unfold recAt; rw [if_pos h8]
      go_wp2_with fail
      all_goals
        refine (record_short _ _ _ _ b (o + u) (from_ u f) (by omega)).mono ?_
        rintro e w1 ⟨⟨v1, ok1, rfl, hrv⟩, hb1⟩
        have hok : ok1 = false := by
          unfold RecV at hrv
          rw [hno.out] at hrv
          exact hrv
        subst hok
        have HB1 := Lib.hid hb1
        clear hb1 hrv
        go_wp2_with fail
        go_ret2
        exact HAT.out.stop hno.out HB1.out
    · have hcu : ¬ c = u := by omega
      go_wp2_with fail
      refine (record_any _ b (o + u) (c - u) (n - u) (from_ u f) (by omega) (by omega) (fun j hj => ?_) (by omega)).mono ?_
      · rw [Nat.add_assoc]
        have h0 := HC.out (u + j) (by omega)
        exact (HBE.out.cell (p := ⟨b, o + (u + j), none⟩) (HBL.out (by omega))).trans h0
      rintro e w1 ⟨⟨v1, ok1, rfl, hrv⟩, hb1⟩
      have HB1 := Lib.hid hb1
      clear hb1
      unfold RecV at hrv
      cases hrec : recAt (n - u) (from_ u f) with
      | none =>
        rw [hrec] at hrv
        have hok : ok1 = false := hrv
        subst hok
        have HREC := Lib.hid hrec
        clear hrec hrv
        go_wp2_with fail
        go_ret2
        exact HAT.out.stop HREC.out HB1.out
      | some m =>
        rw [hrec] at hrv
        obtain ⟨rfl, A1, c1, rfl, hA1⟩ := hrv
        have hle := (recAt_le hrec).1
        have HREC := Lib.hid hrec
        clear hrec
        have hrd : Reads w1 w1.heap.size 1 A1 m (bytesOf m (from_ (u + 8) f)) := by
          have hb := HBE.out.trans (HB1.out.mono hz)
          refine Reads.flat (o := o + u + 8) (fun h => ⟨hA1 h, Nat.lt_of_lt_of_le (HBL.out (by omega)) hb.size⟩) (fun j hj => ?_)
          rw [show o + u + 8 + j = o + (u + 8 + j) by omega]
          exact (hb.cell (p := ⟨b, o + (u + 8 + j), none⟩) (HBL.out (by omega))).trans (HC.out (u + 8 + j) (by omega))
        have HO := Lib.hid (lit_owns w1 5)
        have HRD := Lib.hid (hrd.alloc (Nat.le_refl _) (.cells #[] 5))
        clear hrd hA1
        have q3 : IntKind.i64.wrap (8 + (m : Int)) = 8 + (m : Int) := IntWalk.i64_in _ (by omega)
        have q4 : IntKind.i64.wrap ((u : Int) + (8 + (m : Int))) = (u : Int) + (8 + (m : Int)) := IntWalk.i64_in _ (by omega)
        have hlen2 : rs.length + 1 ≤ maxLen := by unfold maxLen; omega
        go_wp2_with (first
          | (at_builtin
             refine wpList_append_any _ rfl (.tmp 20) (.tmp 21) _ rfl w1.heap.size 5 iu _ 1 1 Try.underlying22 hiu hzu0 hzu1 hzu2 rfl (by omega) _ 0 [] rfl
               HO.out w1.heap.size A1 m c1 _ rfl HRD.out (bytesOf_one _ _) (by unfold maxLen; omega) (by omega) (by simp) ?_
             intro v2 w2 ho2 hg2 hat2
             rw [Nat.zero_add, List.nil_append] at ho2
             have hb2 : Below w1.heap.size w1 w2 := ((Below.refl _ _).alloc (Nat.le_refl _) _).grown hg2 (by rw [World.size_alloc]; omega) (fun g e => by have := Option.some.inj (show some w1.heap.size = some g from e); omega)
             obtain ⟨A2, g2, c2, rfl, _⟩ := own_bytes ho2
             have hzB := HB1.out.size
             have hz2' := hb2.size
             have hb3 : Below wr.heap.size wr (w2.alloc (.cells #[.slice A2 m c2] 22)) := (HB1.out.trans (hb2.mono hzB)).alloc (by omega) _
             have hli := HLI.out.below hb3
             obtain ⟨xs, hx1, hx2⟩ := hli
             have hy : (w2.alloc (.cells #[.slice A2 m c2] 22)).ownsRow w.heap.size 5 1 (.slice A2 m c2) m (bytesOf m (from_ (u + 8) f)) := owns_base (owns_below ho2 ((Below.refl _ _).alloc (Nat.le_refl _) _)) (by omega)
             have hnews : Reads (w2.alloc (.cells #[.slice A2 m c2] 22)) (w2.alloc (.cells #[.slice A2 m c2] 22)).heap.size 1 (some ⟨w2.heap.size, 0, none⟩) 1 [.slice A2 m c2] := by
               refine ⟨rfl, fun _ => ⟨⟨w2.heap.size, 0, none⟩, rfl, by rw [World.size_alloc]; exact Nat.lt_succ_self _, fun j u hu => ?_⟩⟩
               rcases j with _ | j
               · injection hu with hu
                 subst hu
                 rw [add_flat]
                 exact lit_cell' _ _ _ _ _
               · simp at hu
             have HX1 := Lib.hid hx1
             have HX2 := Lib.hid hx2
             have HY := Lib.hid hy
             have HNW := Lib.hid hnews
             have HB3 := Lib.hid (HBE.out.trans (hb3.mono hz))
             clear hb2 ho2 hb3 hx1 hx2 hy hnews hg2 hat2)
          | (at_builtin
             refine wpList_append_any _ rfl (.tmp 19) (.tmp 23) _ rfl w.heap.size 22 i0 _ 1 24 Try.underlying23 hi0 hz0 hz1 hz2 rfl (by omega) _ rs.length xs rfl
               HX1.out _ _ 1 1 _ rfl HNW.out (by intro u hu; simp at hu; subst hu; rfl) hlen2 (by omega) (by rw [World.size_alloc]; omega) ?_
             intro v3 w3 hown3 hg3 hat3
             have hat' := HAT.out.next HREC.out HX1.out HX2.out HB3.out HY.out hown3 hg3
             have HAT3 := Lib.hid hat'
             clear hown3 hg3 hat3 hat'))
        go_roundw
        case rel => exact ⟨_, _, HAT3.out⟩
        case measure => simp [intOf]; omega
end Go.Proofs.Ytjiiaepmdlempaa
