/- The program's Digest: New and Write. -/
import Derived.Test.YtnhggaghidbniaaShaW4
import Derived.Test.YtnhggaghidbniaaApp
import Derived.Deep.RegionLaw
namespace Go.Proofs.Ytnhggaghidbniaa
open Go.RowKit
set_option linter.unusedVariables false
open ShaW Sha

/-- the cells of a Digest -/
def digCells (s : St) (rv : Value) (m : Nat) : Array Value := #[.int .u32 s.a.toNat, .int .u32 s.b.toNat, .int .u32 s.c.toNat, .int .u32 s.d.toNat, .int .u32 s.e.toNat, .int .u32 s.f.toNat, .int .u32 s.g.toNat, .int .u32 s.h.toNat, rv, .int .i64 (m : Int)]

/-- at D lies a Digest of the m bytes f, whose rest lies at B or above -/
def DigestAt (w : World) (B D m : Nat) (f : Nat → UInt8) : Prop :=
  B ≤ D ∧ ∃ rv, Blk w D 97 (digCells (blocks begin0 f (m / 64)) rv m) ∧ w.ownsRow B 5 1 rv (m % 64) (bytesOf (m % 64) (fun j => f (64 * (m / 64) + j)))

theorem below_of_drewN {B n : Nat} {a w : World} (h : Below B (a.drewN n) w) : Below B a w := ⟨h.os, h.tape, h.output, h.size, h.block⟩
theorem DigestAt.lt {w : World} {B D m : Nat} {f : Nat → UInt8} (h : DigestAt w B D m f) : D < w.heap.size := by obtain ⟨_, rv, hb, _⟩ := h; exact hb.lt
theorem DigestAt.kept {w w' : World} {B D E m : Nat} {f : Nat → UInt8} {cs : Array Value} (h : DigestAt w B D m f) (hE : Blk w E 97 cs) (hg : w.grownBy w' (some E)) (hne : D ≠ E) : DigestAt w' B D m f := by
  obtain ⟨hB, rv, hb, ho⟩ := h
  exact ⟨hB, rv, hb.grown hg (by simpa using hne), ho.kept hg (.inr (own_blk_ne ho hE (by decide)))⟩
theorem DigestAt.below {w w' : World} {B D m : Nat} {f : Nat → UInt8} (h : DigestAt w B D m f) (hb : Below w.heap.size w w') : DigestAt w' B D m f := by
  obtain ⟨hB, rv, hk, ho⟩ := h
  refine ⟨hB, rv, hk.below hb hk.lt, ho.kept (below_grownBy hb none) ?_⟩
  rcases hv : rv.ownBlock with _ | g
  · exact .inl rfl
  · exact .inr (by simp)

set_option maxRecDepth 100000 in
theorem begin_any (w : World) : Calls Try.prog 58 #[] w fun e w' => e = .returned (stV begin0) ∧ Below w.heap.size w w' ∧ w'.heap.size = w.heap.size + 1 := by
  go_enter Try.func58, Try.ntmps58
  go_wp2_with fail
  refine bodyPost_ret (results_cell_row rfl _ _ w.heap.size _ _ (0, 0) _ rfl (heap_alloc_new _ _) Try.underlying94 rfl (by kernel_rfl)) rfl ⟨?_, ?_, ?_⟩
  · rfl
  · exact (Below.refl _ _).alloc (Nat.le_refl _) _
  · simp

set_option maxRecDepth 100000 in
theorem new_any (w : World) (f : Nat → UInt8) : Calls Try.prog 47 #[] w fun e w' => e = .returned (.pointer (some ⟨w.heap.size + 1, 0, none⟩)) ∧ Below w.heap.size w w' ∧ DigestAt w' w.heap.size (w.heap.size + 1) 0 f := by
  go_enter Try.func47, Try.ntmps47
  go_wp2_with fail
  refine (begin_any _).mono ?_
  rintro e w1 ⟨rfl, hb, hs⟩
  go_wp2_with fail
  go_ret
  have hz := hb.size
  refine ⟨rfl, hb.alloc hz _, by omega, .slice none 0 0, ?_, ?_⟩
  · exact heap_alloc_at _ _ _ hs.symm
  · exact World.ownsRow_nil _ _ _ _

theorem set8_grown (w : World) (D : Nat) (s : St) : w.grownBy (((((((((w.setCell ⟨D, 0, none⟩ (.int .u32 s.a.toNat)).setCell ⟨D, 1, none⟩ (.int .u32 s.b.toNat)).setCell ⟨D, 2, none⟩ (.int .u32 s.c.toNat)).setCell ⟨D, 3, none⟩ (.int .u32 s.d.toNat)).setCell ⟨D, 4, none⟩ (.int .u32 s.e.toNat)).setCell ⟨D, 5, none⟩ (.int .u32 s.f.toNat)).setCell ⟨D, 6, none⟩ (.int .u32 s.g.toNat)).setCell ⟨D, 7, none⟩ (.int .u32 s.h.toNat)) : World) (some D) := by
  refine only_setCell (only_setCell (only_setCell (only_setCell (only_setCell (only_setCell (only_setCell (only_setCell (World.grownBy.refl w _) ?_ _) ?_ _) ?_ _) ?_ _) ?_ _) ?_ _) ?_ _) ?_ _ <;> exact .inl rfl
theorem set8_blk {w : World} {D : Nat} {t : TypeId} {s0 : St} {rv : Value} {m : Nat} (h : Blk w D t (digCells s0 rv m)) (s : St) : Blk (((((((((w.setCell ⟨D, 0, none⟩ (.int .u32 s.a.toNat)).setCell ⟨D, 1, none⟩ (.int .u32 s.b.toNat)).setCell ⟨D, 2, none⟩ (.int .u32 s.c.toNat)).setCell ⟨D, 3, none⟩ (.int .u32 s.d.toNat)).setCell ⟨D, 4, none⟩ (.int .u32 s.e.toNat)).setCell ⟨D, 5, none⟩ (.int .u32 s.f.toNat)).setCell ⟨D, 6, none⟩ (.int .u32 s.g.toNat)).setCell ⟨D, 7, none⟩ (.int .u32 s.h.toNat)) : World) D t (digCells s rv m) := by
  have h8 := (((((((h.set_ 0 (.int .u32 s.a.toNat)).set_ 1 (.int .u32 s.b.toNat)).set_ 2 (.int .u32 s.c.toNat)).set_ 3 (.int .u32 s.d.toNat)).set_ 4 (.int .u32 s.e.toNat)).set_ 5 (.int .u32 s.f.toNat)).set_ 6 (.int .u32 s.g.toNat)).set_ 7 (.int .u32 s.h.toNat)
  rw [show digCells s rv m = _ from (by simp [digCells] : digCells s rv m = (((((((((digCells s0 rv m).setIfInBounds 0 (.int .u32 s.a.toNat)).setIfInBounds 1 (.int .u32 s.b.toNat)).setIfInBounds 2 (.int .u32 s.c.toNat)).setIfInBounds 3 (.int .u32 s.d.toNat)).setIfInBounds 4 (.int .u32 s.e.toNat)).setIfInBounds 5 (.int .u32 s.f.toNat)).setIfInBounds 6 (.int .u32 s.g.toNat)).setIfInBounds 7 (.int .u32 s.h.toNat)))]
  exact h8

theorem far_cell {w w' : World} {g i : Nat} (h : w'.heap[g]? = w.heap[g]?) : w'.cell? ⟨g, i, none⟩ = w.cell? ⟨g, i, none⟩ := World.cell?_of_block h

theorem u8_info : (Try.prog.info? 5).map (fun i => (i.zero, i.size, i.bytes)) = some (some (.int .u8 0), 1, 1) := by kernel_rfl
/-- the length of a slice -/
def sliceLen : Value → Nat
  | .slice _ n _ => n
  | _ => 0

set_option maxRecDepth 100000 in
set_option maxHeartbeats 1000000 in
theorem write_fresh (w : World) (B D m n : Nat) (f g : Nat → UInt8) (A : Option Addr) (c : Nat) (hD : DigestAt w B D m f) (hr : Reads w w.heap.size 1 A n (bytesOf n g)) (hmn : m + n ≤ 1099511627776) (hB : B ≤ w.heap.size) :
    Calls Try.prog 48 #[.pointer (some ⟨D, 0, none⟩), .slice A n c] w fun e w' => e = .returned (.tuple #[]) ∧ w.grownBy w' (some D) ∧ B ≤ D ∧ ∃ rv, Blk w' D 97 (digCells (blocks begin0 (glue m f g) ((m + n) / 64)) rv (m + n)) ∧ w'.ownsRow w.heap.size 5 1 rv ((m + n) % 64) (bytesOf ((m + n) % 64) (fun j => glue m f g (64 * ((m + n) / 64) + j))) := by
  obtain ⟨i0, hi0, hz0, hz1, hz2⟩ := info_parts u8_info
  obtain ⟨hBD, rv, hk, ho⟩ := hD
  have hDlt := hk.lt
  obtain ⟨Ar, gr, cr, rfl, hAr, _, _, hcr⟩ := own_bytes ho
  have x8 : w.cell? ⟨D, 8, none⟩ = some (.slice Ar (m % 64) cr) := hk.cell 8
  have y8 : w.frozen? ⟨D, 8, none⟩ = false := hk.frozen 8
  have x9 : w.cell? ⟨D, 9, none⟩ = some (.int .i64 (m : Int)) := hk.cell 9
  have y9 : w.frozen? ⟨D, 9, none⟩ = false := hk.frozen 9
  have q9 : IntKind.i64.wrap ((m : Int) + n) = (m : Int) + n := IntWalk.i64_in _ (by omega)
  have HO := Lib.hid ho
  have HR := Lib.hid hr
  have HK := Lib.hid hk
  have HR0 : Hid (Reads (w.setCell ⟨D, 9, none⟩ (.int .i64 ((m : Int) + n))) w.heap.size 1 Ar (m % 64) (bytesOf (m % 64) (fun j => f (64 * (m / 64) + j)))) := by
    exact Reads.setOther (Reads.of_own ho) x9 (fun b e => by injection e with e; injection e) _
  have HR1 : ∀ w1, (w.setCell ⟨D, 9, none⟩ (.int .i64 ((m : Int) + n))).grownBy w1 none → Reads w1 w.heap.size 1 A n (bytesOf n g) := by
    intro w1 h1
    exact Reads.grown (Reads.setOther hr x9 (fun b e => by injection e with e; injection e) _) h1 (by simp) (fun g e => by cases e)
  have HR2 : ∀ w1, (w.setCell ⟨D, 9, none⟩ (.int .i64 ((m : Int) + n))).grownBy w1 none → w.heap.size ≤ w1.heap.size := fun w1 h => by have := h.size; simpa using this
  clear ho hr hk
  go_enter Try.func48, Try.ntmps48
  go_wp2_with (first
    | (at_builtin
       refine wpList_append_any _ rfl (.const (.slice none 0 0)) (.tmp 19) _ rfl w.heap.size 5 i0 _ 1 1 Try.underlying33 hi0 hz0 hz1 hz2 rfl (by omega) (.slice none 0 0) 0 [] rfl
         ⟨by simp, .inl ⟨rfl, rfl⟩⟩ w.heap.size Ar (m % 64) cr _ rfl HR0.out (bytesOf_one _ _) (by unfold maxLen; omega) (by omega) (by simp) ?_
       intro v1 w1 hown1 hg1 hat1)
    | (at_builtin
       refine wpList_append_any _ rfl (.tmp 20) (.tmp 21) _ rfl w.heap.size 5 i0 _ 1 1 Try.underlying33 hi0 hz0 hz1 hz2 rfl (by omega) v1 (0 + m % 64) _ rfl
         hown1 w.heap.size A n c _ rfl (HR1 _ hg1) (bytesOf_one _ _) (by unfold maxLen; omega) (by omega) (HR2 _ hg1) ?_
       intro v2 w2 hown2 hg2 hat2))
  obtain ⟨F, hF⟩ : ∃ F : Nat → UInt8, F = fun j => glue m f g (64 * (m / 64) + j) := ⟨_, rfl⟩
  have hown : w2.ownsRow w.heap.size 5 1 v2 (m % 64 + n) (bytesOf (m % 64 + n) F) := by
    rw [Nat.zero_add, List.nil_append, bytesOf_glue] at hown2
    rw [hF]
    refine (bytesOf_congr (fun j hj => ?_)) ▸ hown2
    unfold glue
    by_cases h : j < m % 64
    · rw [if_pos h, if_pos (by omega)]
    · rw [if_neg h, if_neg (by omega)]
      congr 1
      omega
  have hgr : w.grownBy w2 (some D) := by
    refine only_trans (only_trans (only_setCell (World.grownBy.refl w _) (p := ⟨D, 9, none⟩) (.inl rfl) _) hg1 (fun g e => by cases e)) hg2 (fun g e => .inl ?_)
    exact (hown1.lt g e).1
  have hk2 : Blk w2 D 97 (digCells (blocks begin0 f (m / 64)) (.slice Ar (m % 64) cr) (m + n)) := by
    have h0 : Blk (w.setCell ⟨D, 9, none⟩ (.int .i64 ((m : Int) + n))) D 97 (digCells (blocks begin0 f (m / 64)) (.slice Ar (m % 64) cr) (m + n)) := by
      have := HK.out.set_ 9 (.int .i64 ((m : Int) + n))
      exact this
    exact (h0.grown hg1 (by simp [Value.ownBlock])).grown hg2 (fun e => by have := (hown1.lt D e.symm).1; omega)
  obtain ⟨A2, g2, c2, rfl, hA2, hc2, hcm2, hcell2⟩ := own_bytes hown
  clear hown hown1 hown2 hg1 hg2 hat1 hat2 HR0 HR1 HR2 HR HO HK x8 y8 x9 y9 q9 hAr hcr
  have HG := Lib.hid hgr
  have HB := Lib.hid hk2
  have HA := Lib.hid hA2
  have HC := Lib.hid hcell2
  clear hgr hk2 hA2 hcell2
  go_loopw [4] (fun i wr => ∃ k A' o c', i = .slice A' (m % 64 + n - 64 * k) c' ∧ 64 * k ≤ m % 64 + n ∧ (0 < m % 64 + n - 64 * k → A' = some ⟨g2, o, none⟩ ∧ w.heap.size ≤ g2) ∧ m % 64 + n - 64 * k ≤ c' ∧ c' ≤ maxLen ∧
      (∀ j, j < m % 64 + n - 64 * k → wr.cell? ⟨g2, o + j, none⟩ = some (.int .u8 ((glue m f g (64 * (m / 64 + k) + j)).toNat : Int))) ∧
      w.grownBy wr (some D) ∧ Blk wr D 97 (digCells (blocks begin0 (glue m f g) (m / 64 + k)) (.slice Ar (m % 64) cr) (m + n))) (fun i _ => sliceLen i)
  case atStart =>
    refine ⟨0, A2, 0, c2, by simp, by omega, fun h => ⟨(HA.out (by omega)).1, (HA.out (by omega)).2.1⟩, by omega, by omega, ?_, HG.out, ?_⟩
    · intro j hj
      have := HC.out j (by omega)
      rw [hF] at this
      exact this
    · have := HB.out
      rw [blocks_congr begin0 (m / 64 + 0) (f := glue m f g) (f' := f) (fun j hj => by unfold glue; rw [if_pos (by omega)])]
      exact this
  case round =>
    obtain ⟨k, A', o, c', rfl, hk, hA', hc', hcm', hcell, hgr, hb⟩ := hrel
    by_cases hlt : 64 ≤ m % 64 + n - 64 * k
    · skip
      obtain ⟨rfl, hgl⟩ := hA' (by omega)
      have hlen : ((m % 64 + n - 64 * k : Nat) : Int) ≥ 64 := by omega
      obtain ⟨sa, sb, sc, sd, se, sf, sg, sh, hst⟩ : ∃ sa sb sc sd se sf sg sh, blocks begin0 (glue m f g) (m / 64 + k) = ⟨sa, sb, sc, sd, se, sf, sg, sh⟩ := ⟨_, _, _, _, _, _, _, _, rfl⟩
      have HS : Hid (blocks begin0 (glue m f g) (m / 64 + (k + 1)) = block ⟨sa, sb, sc, sd, se, sf, sg, sh⟩ (fun j => glue m f g (64 * (m / 64 + k) + j))) := by
        show _ = _
        rw [← hst]
        rfl
      rw [hst] at hb
      clear hst
      have hcc : (64 : Int) ≤ c' := by omega
      have x0 : wr.cell? ⟨D, 0, none⟩ = some (.int .u32 sa.toNat) := hb.cell 0
      have x1 : wr.cell? ⟨D, 1, none⟩ = some (.int .u32 sb.toNat) := hb.cell 1
      have x2 : wr.cell? ⟨D, 2, none⟩ = some (.int .u32 sc.toNat) := hb.cell 2
      have x3 : wr.cell? ⟨D, 3, none⟩ = some (.int .u32 sd.toNat) := hb.cell 3
      have x4 : wr.cell? ⟨D, 4, none⟩ = some (.int .u32 se.toNat) := hb.cell 4
      have x5 : wr.cell? ⟨D, 5, none⟩ = some (.int .u32 sf.toNat) := hb.cell 5
      have x6 : wr.cell? ⟨D, 6, none⟩ = some (.int .u32 sg.toNat) := hb.cell 6
      have x7 : wr.cell? ⟨D, 7, none⟩ = some (.int .u32 sh.toNat) := hb.cell 7
      have HCALL := fun w1 (hw1 : Below wr.heap.size wr w1) => block_any ⟨sa, sb, sc, sd, se, sf, sg, sh⟩ g2 o c' (fun j => glue m f g (64 * (m / 64 + k) + j)) w1 (fun j hj => (hw1.cell (p := ⟨g2, o + j, none⟩) (World.block_lt_of_cell? wr _ (hcell j (by omega)))).trans (hcell j (by omega)))
      have HCL := Lib.hid HCALL
      have hST : ∀ w2, Below wr.heap.size wr w2 → w2.cell? ⟨D, 0, none⟩ = some (.int .u32 sa.toNat) ∧ w2.frozen? ⟨D, 0, none⟩ = false ∧ w2.cell? ⟨D, 1, none⟩ = some (.int .u32 sb.toNat) ∧ w2.frozen? ⟨D, 1, none⟩ = false ∧ w2.cell? ⟨D, 2, none⟩ = some (.int .u32 sc.toNat) ∧ w2.frozen? ⟨D, 2, none⟩ = false ∧ w2.cell? ⟨D, 3, none⟩ = some (.int .u32 sd.toNat) ∧ w2.frozen? ⟨D, 3, none⟩ = false ∧ w2.cell? ⟨D, 4, none⟩ = some (.int .u32 se.toNat) ∧ w2.frozen? ⟨D, 4, none⟩ = false ∧ w2.cell? ⟨D, 5, none⟩ = some (.int .u32 sf.toNat) ∧ w2.frozen? ⟨D, 5, none⟩ = false ∧ w2.cell? ⟨D, 6, none⟩ = some (.int .u32 sg.toNat) ∧ w2.frozen? ⟨D, 6, none⟩ = false ∧ w2.cell? ⟨D, 7, none⟩ = some (.int .u32 sh.toNat) ∧ w2.frozen? ⟨D, 7, none⟩ = false := by
        intro w2 hb2
        have hk2 := hb.below hb2 hb.lt
        exact ⟨hk2.cell 0, hk2.frozen 0, hk2.cell 1, hk2.frozen 1, hk2.cell 2, hk2.frozen 2, hk2.cell 3, hk2.frozen 3, hk2.cell 4, hk2.frozen 4, hk2.cell 5, hk2.frozen 5, hk2.cell 6, hk2.frozen 6, hk2.cell 7, hk2.frozen 7⟩
      have HST := Lib.hid hST
      clear hST
      clear HCALL HC
      have HCELL := Lib.hid hcell
      have HGR := Lib.hid hgr
      have HBK := Lib.hid hb
      clear hcell hgr hb
      go_wp2_with (fail)
      go_region_law (first | (go_simp; go_at_call 59; refine (HCL.out _ (below_drewN (Below.refl _ _) _)).mono ?_; rintro e w2 ⟨rfl, hb2⟩; obtain ⟨z0, y0, z1, y1, z2, y2, z3, y3, z4, y4, z5, y5, z6, y6, z7, y7⟩ := HST.out w2 (below_of_drewN hb2)))
      go_wp2_with (fail)
      have hb2' := below_of_drewN hb2
      have hWg := set8_grown w2 D (block ⟨sa, sb, sc, sd, se, sf, sg, sh⟩ (fun j => glue m f g (64 * (m / 64 + k) + j)))
      have hWb := set8_blk (HBK.out.below hb2' HBK.out.lt) (block ⟨sa, sb, sc, sd, se, sf, sg, sh⟩ (fun j => glue m f g (64 * (m / 64 + k) + j)))
      go_roundw
      case rel =>
        have hl1 : m % 64 + n - 64 * k - 64 = m % 64 + n - 64 * (k + 1) := by omega
        refine ⟨k + 1, if c' = 64 then some ⟨g2, o, none⟩ else some ⟨g2, o + 64, none⟩, o + 64, c' - 64, by rw [hl1], by omega, fun h => ⟨if_neg (by omega), hgl⟩, by omega, by omega, ?_, ?_, by rw [HS.out]; exact hWb⟩
        · intro j hj
          have hc0 := HCELL.out (64 + j) (by omega)
          have hlt0 := World.block_lt_of_cell? wr _ hc0
          have hne : some g2 ≠ some D := by simp; omega
          have e1 := hWg.block g2 (Nat.lt_of_lt_of_le hlt0 hb2'.size) hne
          have e2 := hb2'.block g2 hlt0
          refine (far_cell e1).trans ((far_cell e2).trans ?_)
          rw [Nat.add_assoc, hc0]
          rw [show 64 * (m / 64 + k) + (64 + j) = 64 * (m / 64 + (k + 1)) + j by omega]
        · refine only_trans (only_trans HGR.out (below_grownBy hb2' (some D)) (fun _ e => .inr e)) hWg (fun _ e => .inr e)
      case measure => simp [sliceLen]; omega
    · have hrd : Reads wr wr.heap.size 1 A' (m % 64 + n - 64 * k) (bytesOf (m % 64 + n - 64 * k) (fun j => glue m f g (64 * (m / 64 + k) + j))) :=
        Reads.flat (fun h => ⟨(hA' h).1, World.block_lt_of_cell? wr _ (hcell 0 h)⟩) hcell
      have hS8 : ∀ w3, wr.grownBy w3 none → Blk w3 D 97 (digCells (blocks begin0 (glue m f g) (m / 64 + k)) (.slice Ar (m % 64) cr) (m + n)) ∧ w3.cell? ⟨D, 8, none⟩ = some (.slice Ar (m % 64) cr) ∧ w3.frozen? ⟨D, 8, none⟩ = false := by
        intro w3 h3
        have hk3 := hb.grown h3 (by simp)
        exact ⟨hk3, hk3.cell 8, hk3.frozen 8⟩
      have hBr : w.heap.size ≤ wr.heap.size := hgr.size
      have HRD := Lib.hid hrd
      have HS8 := Lib.hid hS8
      have HGR := Lib.hid hgr
      have hlt' : ¬ (64 : Int) ≤ ((m % 64 + n - 64 * k : Nat) : Int) := by omega
      obtain ⟨len, hlen⟩ : ∃ l, l = m % 64 + n - 64 * k := ⟨_, rfl⟩
      rw [← hlen] at hlt' HRD ⊢
      have hlb : len < 64 := by omega
      have HLEN := Lib.hid hlen
      clear hrd hS8 hgr hcell hb hA' HC hlt HA HB HG hlen hlt'
      have hlen2 : (len : Int) < 64 := by omega
      go_wp2_with (first
        | (at_builtin
           refine wpList_append_any _ rfl (.const (.slice none 0 0)) (.tmp 39) _ rfl w.heap.size 5 i0 _ 1 1 Try.underlying33 hi0 hz0 hz1 hz2 rfl (by omega) (.slice none 0 0) 0 [] rfl
             ⟨by simp, .inl ⟨rfl, rfl⟩⟩ wr.heap.size A' len c' _ rfl HRD.out (bytesOf_one _ _) (by unfold maxLen; omega) (by omega) hBr ?_
           intro v3 w3 hown3 hg3 hat3
           rw [Nat.zero_add, List.nil_append] at hown3
           obtain ⟨A3, g3, c3, rfl, _⟩ := own_bytes hown3
           have HO3 := Lib.hid hown3
           clear hown3
           obtain ⟨hk3, z8, y8⟩ := HS8.out w3 hg3))
      go_end0
      have hl := HLEN.out
      have e1 : (m + n) / 64 = m / 64 + k := by omega
      have e2 : (m + n) % 64 = len := by omega
      refine ⟨rfl, only_setCell (only_trans HGR.out hg3 (fun _ e => by cases e)) (.inl rfl) _, hBD, .slice A3 len c3, ?_, ?_⟩
      · rw [e1]
        have h8 := hk3.set_ 8 (.slice A3 len c3)
        exact h8
      · rw [e1, e2]
        have ho := HO3.out
        exact ho.kept (only_setCell (World.grownBy.refl w3 (some D)) (p := ⟨D, 8, none⟩) (.inl rfl) _) (.inr (own_blk_ne ho hk3 (by decide)))
theorem owns_base {w : World} {base base' : Nat} {e : TypeId} {size n : Nat} {v : Value} {xs : List Value} (h : w.ownsRow base e size v n xs) (hb : base' ≤ base) : w.ownsRow base' e size v n xs := by
  refine ⟨h.1, ?_⟩
  rcases h.2 with h | ⟨g, cap, cur, h1, h2, h3⟩
  · exact .inl h
  · exact .inr ⟨g, cap, cur, h1, by omega, h3⟩
theorem write_any (w : World) (B D m n : Nat) (f g : Nat → UInt8) (A : Option Addr) (c : Nat) (hD : DigestAt w B D m f) (hr : Reads w w.heap.size 1 A n (bytesOf n g)) (hmn : m + n ≤ 1099511627776) (hB : B ≤ w.heap.size) :
    Calls Try.prog 48 #[.pointer (some ⟨D, 0, none⟩), .slice A n c] w fun e w' => e = .returned (.tuple #[]) ∧ w.grownBy w' (some D) ∧ DigestAt w' B D (m + n) (glue m f g) := by
  refine (write_fresh w B D m n f g A c hD hr hmn hB).mono ?_
  rintro e w' ⟨he, hg, h1, rv, h2, h3⟩
  exact ⟨he, hg, h1, rv, h2, owns_base h3 hB⟩
end Go.Proofs.Ytnhggaghidbniaa
