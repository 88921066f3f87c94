/- The program's Digest: Sum, and sha.Sum. -/
import Derived.Test.YtnhggaghidbniaaShaW5
namespace Go.Proofs.Ytnhggaghidbniaa
open Go.RowKit
set_option linter.unusedVariables false
open ShaW Sha

/-- a key as a value -/
abbrev keyV (k : Nat → UInt8) : Value := .agg (bytesOf 32 k).toArray

structure SM (w wr : World) (ψ : Nat → UInt8) : Prop where
  bel : Below w.heap.size w wr
  ret : wr.rowIs w.heap.size 23 32 (fun _ => .int .u8 0)
  out : wr.rowIs (w.heap.size + 1) 23 32 (fun i => .int .u8 ((ψ i).toNat : Int))
theorem SM.drew {w wr : World} {ψ : Nat → UInt8} (h : SM w wr ψ) (n : Nat) : SM w (wr.drewN n) ψ := ⟨below_drewN h.bel n, h.ret, h.out⟩
theorem SM.grown {w wr w' : World} {ψ : Nat → UInt8} {row : Option Nat} (h : SM w wr ψ) (hg : wr.grownBy w' row) (hr : ∀ g, row = some g → w.heap.size + 1 + 1 ≤ g) : SM w w' ψ := by
  refine ⟨h.bel.grown hg h.bel.size (fun g e => by have := hr g e; omega), h.ret.of_block (hg.block _ h.ret.lt ?_), h.out.of_block (hg.block _ h.out.lt ?_)⟩
  · intro e; have := hr _ e.symm; omega
  · intro e; have := hr _ e.symm; omega
theorem SM.alloc {w wr : World} {ψ : Nat → UInt8} (h : SM w wr ψ) (o : Obj) : SM w (wr.alloc o) ψ := ⟨h.bel.alloc h.bel.size _, h.ret.alloc _, h.out.alloc _⟩
theorem SM.below {w wr w' : World} {ψ : Nat → UInt8} (h : SM w wr ψ) (hb : Below wr.heap.size wr w') : SM w w' ψ :=
  ⟨h.bel.trans (hb.mono h.bel.size), h.ret.of_block (hb.block _ h.ret.lt), h.out.of_block (hb.block _ h.out.lt)⟩
theorem SM.size {w wr : World} {ψ : Nat → UInt8} (h : SM w wr ψ) : w.heap.size + 1 + 1 ≤ wr.heap.size := by have := h.out.lt; omega

theorem all_one (l : List Value) (h : ∀ u ∈ l, u.oneCell' = true) : l.toArray.all (·.oneCell') = true := by
  rw [Array.all_eq_true]
  intro i hi
  exact h _ (by simp)
theorem key_heap {w : World} {b : Nat} {t : TypeId} {ψ : Nat → UInt8} (h : w.rowIs b t 32 (fun i => .int .u8 ((ψ i).toNat : Int))) : w.heap[b]? = some (.cells (bytesOf 32 ψ).toArray t (0, 0)) := by
  obtain ⟨cs, hc, hs, hf⟩ := h
  rw [hc]
  congr 2
  apply Array.ext_getElem?
  intro i
  by_cases hi : i < 32
  · rw [hf i hi]
    exact (List.getElem?_toArray.trans (bytesOf_get ψ hi)).symm
  · rw [Array.getElem?_eq_none (by omega), Array.getElem?_eq_none (by simp [bytesOf_length]; omega)]

theorem zero_row (w : World) (t : TypeId) (b : Nat) (hb : b = w.heap.size) (cs : Array Value) (hc : cs = Array.replicate 32 (.int .u8 0)) : (w.alloc (.cells cs t)).rowIs b t 32 (fun _ => .int .u8 0) := by
  subst hc
  exact rowIs_of_heap (heap_alloc_at _ _ _ hb) (by simp) (fun i hi => Array.getElem?_replicate.trans (if_pos hi))

/-- the cells of a state -/
def stCells (s : St) : Array Value := #[.int .u32 s.a.toNat, .int .u32 s.b.toNat, .int .u32 s.c.toNat, .int .u32 s.d.toNat, .int .u32 s.e.toNat, .int .u32 s.f.toNat, .int .u32 s.g.toNat, .int .u32 s.h.toNat]
theorem set8_stblk {w : World} {D : Nat} {t : TypeId} {s0 : St} (h : Blk w D t (stCells s0)) (s : St) : Blk (((((((((w.setCell ⟨D, 0, none⟩ (.int .u32 s.a.toNat)).setCell ⟨D, 1, none⟩ (.int .u32 s.b.toNat)).setCell ⟨D, 2, none⟩ (.int .u32 s.c.toNat)).setCell ⟨D, 3, none⟩ (.int .u32 s.d.toNat)).setCell ⟨D, 4, none⟩ (.int .u32 s.e.toNat)).setCell ⟨D, 5, none⟩ (.int .u32 s.f.toNat)).setCell ⟨D, 6, none⟩ (.int .u32 s.g.toNat)).setCell ⟨D, 7, none⟩ (.int .u32 s.h.toNat)) : World) D t (stCells s) := by
  have h8 := (((((((h.set_ 0 (.int .u32 s.a.toNat)).set_ 1 (.int .u32 s.b.toNat)).set_ 2 (.int .u32 s.c.toNat)).set_ 3 (.int .u32 s.d.toNat)).set_ 4 (.int .u32 s.e.toNat)).set_ 5 (.int .u32 s.f.toNat)).set_ 6 (.int .u32 s.g.toNat)).set_ 7 (.int .u32 s.h.toNat)
  rw [show stCells s = _ from (by simp [stCells] : stCells s = (((((((((stCells s0).setIfInBounds 0 (.int .u32 s.a.toNat)).setIfInBounds 1 (.int .u32 s.b.toNat)).setIfInBounds 2 (.int .u32 s.c.toNat)).setIfInBounds 3 (.int .u32 s.d.toNat)).setIfInBounds 4 (.int .u32 s.e.toNat)).setIfInBounds 5 (.int .u32 s.f.toNat)).setIfInBounds 6 (.int .u32 s.g.toNat)).setIfInBounds 7 (.int .u32 s.h.toNat)))]
  exact h8

/-- the digest so far -/
def outAt (s : St) (k j : Nat) : UInt8 := if j < 4 * k then outByte s j else 0
theorem SM.out4 {w wr : World} {S : St} {k : Nat} (h : SM w wr (outAt S k)) (hk : k < 8) :
    SM w ((((wr.setCell ⟨w.heap.size + 1, 4 * k, none⟩ (.int .u8 (((wordOf S k).toNat : Int) / 16777216))).setCell ⟨w.heap.size + 1, 4 * k + 1, none⟩ (.int .u8 (((wordOf S k).toNat : Int) / 65536 % 256))).setCell ⟨w.heap.size + 1, 4 * k + 2, none⟩ (.int .u8 (((wordOf S k).toNat : Int) / 256 % 256))).setCell ⟨w.heap.size + 1, 4 * k + 3, none⟩ (.int .u8 (((wordOf S k).toNat : Int) % 256)) : World) (outAt S (k + 1)) := by
  have hb : ∀ j, j < 4 → ((outByte S (4 * k + j)).toNat : Int) = ((wordOf S k).toNat : Int) / 2 ^ (24 - j * 8) % 256 := by
    intro j hj
    unfold outByte
    rw [UInt8.toNat_ofNat', show (4 * k + j) / 4 = k by omega, show (4 * k + j) % 4 = j by omega]
    generalize 24 - j * 8 = q
    generalize (wordOf S k).toNat = x
    rw [Int.natCast_emod, Int.natCast_ediv, Int.natCast_pow]
    rfl
  have h0 := hb 0 (by omega)
  have h1 := hb 1 (by omega)
  have h2 := hb 2 (by omega)
  have h3 := hb 3 (by omega)
  rw [show ((2 : Int) ^ (24 - 0 * 8)) = 16777216 from rfl, Nat.add_zero] at h0
  have hlt32 := (wordOf S k).isLt
  rw [show ((wordOf S k).toNat : Int) / 16777216 % 256 = ((wordOf S k).toNat : Int) / 16777216 by omega] at h0
  rw [show ((2 : Int) ^ (24 - 1 * 8)) = 65536 from rfl] at h1
  rw [show ((2 : Int) ^ (24 - 2 * 8)) = 256 from rfl] at h2
  rw [show ((2 : Int) ^ (24 - 3 * 8)) = 1 from rfl, Int.ediv_one] at h3
  rw [← h0, ← h1, ← h2, ← h3]
  refine ⟨(((h.bel.setCell (by simp) _).setCell (by simp) _).setCell (by simp) _).setCell (by simp) _, (((h.ret.setOther (by simp) _).setOther (by simp) _).setOther (by simp) _).setOther (by simp) _, ?_⟩
  refine ((((h.out.set _ _).set _ _).set _ _).set _ _).congr ?_
  intro j hj
  show (if j = 4 * k + 3 then _ else if j = 4 * k + 2 then _ else if j = 4 * k + 1 then _ else if j = 4 * k then _ else _) = _
  unfold outAt
  by_cases e3 : j = 4 * k + 3
  · subst e3; rw [if_pos rfl, if_pos (by omega)]
  rw [if_neg e3]
  by_cases e2 : j = 4 * k + 2
  · subst e2; rw [if_pos rfl, if_pos (by omega)]
  rw [if_neg e2]
  by_cases e1 : j = 4 * k + 1
  · subst e1; rw [if_pos rfl, if_pos (by omega)]
  rw [if_neg e1]
  by_cases e0 : j = 4 * k
  · subst e0; rw [if_pos rfl, if_pos (by omega)]
  rw [if_neg e0]
  by_cases hl : j < 4 * k
  · rw [if_pos hl, if_pos (by omega)]
  · rw [if_neg hl, if_neg (by omega)]
/-- the tail behind k blocks, and the state -/
def TailAt (w wr : World) (bs g T m : Nat) (f P : Nat → UInt8) (i : Value) : Prop :=
  ∃ k A' o c', i = .slice A' (T - 64 * k) c' ∧ 64 * k ≤ T ∧ (0 < T - 64 * k → A' = some ⟨g, o, none⟩ ∧ g < bs) ∧ T - 64 * k ≤ c' ∧ c' ≤ maxLen ∧
    (∀ j, j < T - 64 * k → wr.cell? ⟨g, o + j, none⟩ = some (.int .u8 ((P (64 * k + j)).toNat : Int))) ∧
    SM w wr (fun _ => 0) ∧ Blk wr bs 94 (stCells (blocks begin0 (padF m f) (m / 64 + k)))
theorem TailAt.step {w wr w2 : World} {bs g T m k o c' : Nat} {f P : Nat → UInt8} {s0 : St} (s : St) (hk : 64 * k + 64 ≤ T) (hgl : g < bs) (hc' : T - 64 * k ≤ c') (hcm' : c' ≤ maxLen)
    (hcell : ∀ j, j < T - 64 * k → wr.cell? ⟨g, o + j, none⟩ = some (.int .u8 ((P (64 * k + j)).toNat : Int))) (hs : SM w wr (fun _ => 0)) (hb : Blk wr bs 94 (stCells s0)) (hbs : w.heap.size + 1 + 1 ≤ bs)
    (hb2 : Below wr.heap.size wr w2) (hst : blocks begin0 (padF m f) (m / 64 + (k + 1)) = s) (v : Value) (hv : v = .slice (if c' = 64 then some ⟨g, o, none⟩ else some ⟨g, o + 64, none⟩) (T - 64 * k - 64) (c' - 64)) :
    TailAt w (((((((((w2.setCell ⟨bs, 0, none⟩ (.int .u32 s.a.toNat)).setCell ⟨bs, 1, none⟩ (.int .u32 s.b.toNat)).setCell ⟨bs, 2, none⟩ (.int .u32 s.c.toNat)).setCell ⟨bs, 3, none⟩ (.int .u32 s.d.toNat)).setCell ⟨bs, 4, none⟩ (.int .u32 s.e.toNat)).setCell ⟨bs, 5, none⟩ (.int .u32 s.f.toNat)).setCell ⟨bs, 6, none⟩ (.int .u32 s.g.toNat)).setCell ⟨bs, 7, none⟩ (.int .u32 s.h.toNat)) : World) bs g T m f P v := by
  have hWg := set8_grown w2 bs s
  have hWb := set8_stblk (hb.below hb2 hb.lt) s
  have hl1 : T - 64 * k - 64 = T - 64 * (k + 1) := by omega
  refine ⟨k + 1, if c' = 64 then some ⟨g, o, none⟩ else some ⟨g, o + 64, none⟩, o + 64, c' - 64, by rw [hv, hl1], by omega, fun h => ⟨if_neg (by omega), hgl⟩, by omega, by omega, ?_, ?_, by rw [hst]; exact hWb⟩
  · intro j hj
    have hc0 := hcell (64 + j) (by omega)
    have hlt0 := World.block_lt_of_cell? wr _ hc0
    have hne : some g ≠ some bs := by simp; omega
    have e1 := hWg.block g (Nat.lt_of_lt_of_le hlt0 hb2.size) hne
    have e2 := hb2.block g hlt0
    refine (far_cell e1).trans ((far_cell e2).trans ?_)
    rw [Nat.add_assoc, hc0]
    rw [show 64 * k + (64 + j) = 64 * (k + 1) + j by omega]
  · refine (hs.below hb2).grown hWg (fun g' e => ?_)
    injection e with e
    omega

set_option maxRecDepth 100000 in
set_option maxHeartbeats 4000000 in
theorem dsum_any (w : World) (B D m : Nat) (f : Nat → UInt8) (hD : DigestAt w B D m f) (hm : m ≤ 1099511627776) :
    Calls Try.prog 49 #[.pointer (some ⟨D, 0, none⟩)] w fun e w' => e = .returned (keyV (sha m f)) ∧ Below w.heap.size w w' := by
  obtain ⟨i0, hi0, hz0, hz1, hz2⟩ := info_parts u8_info
  obtain ⟨hBD, rv, hk, ho⟩ := hD
  have hDlt := hk.lt
  obtain ⟨Ar, gr, cr, rfl, hAr, _, _, hcr⟩ := own_bytes ho
  obtain ⟨P, hP⟩ : ∃ P : Nat → UInt8, P = fun j => padF m f (64 * (m / 64) + j) := ⟨_, rfl⟩
  obtain ⟨T, hT⟩ : ∃ T, T = padLen m - 64 * (m / 64) := ⟨_, rfl⟩
  have hpl := padLen_ge m
  have hTr : m % 64 + 9 ≤ T ∧ (T = 64 ∨ T = 128) ∧ T < m % 64 + 73 := by omega
  have hbytes : bytesOf (m % 64) (fun j => f (64 * (m / 64) + j)) = bytesOf (m % 64) P := by
    refine bytesOf_congr (fun j hj => ?_)
    rw [hP]
    show _ = padF m f _
    unfold padF
    rw [if_pos (by omega)]
  rw [hbytes] at ho
  have hP0 : P (m % 64) = 128 := by
    rw [hP]
    show padF m f _ = _
    unfold padF
    rw [if_neg (by omega), if_pos (by omega)]
  have x8 : w.cell? ⟨D, 8, none⟩ = some (.slice Ar (m % 64) cr) := hk.cell 8
  have hRD : ∀ w1, Below w.heap.size w w1 → Reads w1 w.heap.size 1 Ar (m % 64) (bytesOf (m % 64) P) := fun w1 h1 => (Reads.of_own ho).below h1
  have HRD := Lib.hid hRD
  have HK := Lib.hid hk
  have HP0 := Lib.hid hP0
  have HT := Lib.hid hT
  have HPe := Lib.hid hP
  clear hRD ho hk hP0 hbytes hAr hcr hT hP
  go_enter Try.func49, Try.ntmps49
  go_wp2_with (first
    | (at_builtin
       refine wpList_append_any _ rfl (.const (.slice none 0 0)) (.tmp 16) _ rfl (w.heap.size + 1 + 1) 5 i0 _ 1 1 Try.underlying33 hi0 hz0 hz1 hz2 rfl (by omega) (.slice none 0 0) 0 [] rfl
         ⟨by simp, .inl ⟨rfl, rfl⟩⟩ w.heap.size Ar (m % 64) cr _ rfl (HRD.out _ (((Below.refl _ _).alloc (Nat.le_refl _) _).alloc (by simp) _)) (bytesOf_one _ _) (by unfold maxLen; omega) (by omega) (by simp) ?_
       intro v1 w1 hown1 hg1 hat1)
    | (at_builtin
       refine app_own rfl (.tmp 17) (.tmp 18) _ rfl (w.heap.size + 1 + 1) 5 i0 _ 1 1 Try.underlying33 hi0 hz0 hz1 hz2 rfl (by omega) v1 (0 + m % 64) _ rfl
         hown1 [.int .u8 128] _ rfl rfl (by simp [Value.oneCell']) (by omega) (by omega) (by have := hg1.size; simpa using this) ?_
       intro v2 w2 hown2 hg2))
  have hown : w2.ownsRow (w.heap.size + 1 + 1) 5 1 v2 (m % 64 + 1) (bytesOf (m % 64 + 1) P) := by
    rw [bytesOf_snoc, HP0.out]
    rw [Nat.zero_add, List.nil_append] at hown2
    exact hown2
  have hSM : SM w w2 (fun _ => 0) := by
    have h0 : SM w ((w.alloc _).alloc _) (fun _ => 0) := ⟨((Below.refl _ _).alloc (Nat.le_refl _) _).alloc (by simp) _, (zero_row w 23 _ rfl _ rfl).alloc _, zero_row _ 23 _ (by simp) _ rfl⟩
    exact (h0.grown hg1 (fun g e => by cases e)).grown hg2 (fun g e => (hown1.lt g e).1)
  have HW := Lib.hid hown
  have HSM := Lib.hid hSM
  clear hown hSM hown1 hown2 hg1 hg2 hat1
  go_loopw [4] (fun i wr => ∃ l, m % 64 + 1 ≤ l ∧ l ≤ T - 8 ∧ wr.ownsRow (w.heap.size + 1 + 1) 5 1 i l (bytesOf l P) ∧ SM w wr (fun _ => 0)) (fun i _ => T - sliceLen i)
  case atStart => exact ⟨m % 64 + 1, by omega, by omega, HW.out, HSM.out⟩
  case round =>
    obtain ⟨l, hl1, hl2, hw, hs⟩ := hrel
    obtain ⟨A2, g2, c2, rfl, _⟩ := own_bytes hw
    clear HW HSM
    have hsz := hs.size
    have x9 : wr.cell? ⟨D, 9, none⟩ = some (.int .i64 (m : Int)) := (HK.out.below hs.bel hDlt).cell 9
    have HW := Lib.hid hw
    have HS := Lib.hid hs
    clear hw hs
    by_cases hlt : l = T - 8
    · have ht : ((l : Nat) : Int) % 64 = 56 := by omega
      have hnn : (0 : Int) ≤ l := by omega
      have HQ := Lib.hid hlt
      clear hlt
      have q8 : IntKind.u64.wrap (m : Int) = (m : Int) := by rw [IntKind.wrap_u64]; omega
      have q9 : IntKind.u64.wrap ((m : Int) * 8) = (m : Int) * 8 := by rw [IntKind.wrap_u64]; omega
      go_wp2_with fail
      obtain ⟨wo, rfl⟩ : ∃ wo : World, wo = wr := ⟨_, rfl⟩
      clear ht hnn q8 q9
      go_loopw [4, 6] (fun i j wr => ∃ k : Nat, k ≤ 8 ∧ j = .int .i64 (56 - 8 * (k : Int)) ∧ wr.ownsRow (w.heap.size + 1 + 1) 5 1 i (T - 8 + k) (bytesOf (T - 8 + k) P) ∧ SM w wr (fun _ => 0)) (fun _ j _ => (intOf j + 8).toNat)
      case atStart =>
        refine ⟨0, by omega, rfl, ?_, HS.out⟩
        have := HW.out
        rw [HQ.out] at this
        have e := HQ.out
        rw [e]
        exact this
      case round =>
        obtain ⟨k, hk, rfl, hw, hs⟩ := hrel
        obtain ⟨A3, g3, c3, rfl, hA3, hc3, hcm3, hcell3⟩ := own_bytes hw
        have HA3 := Lib.hid hA3
        have HC3 := Lib.hid hcell3
        clear hA3 hcell3
        clear HW HS
        have hsz2 := hs.size
        have HW := Lib.hid hw
        have HS := Lib.hid hs
        clear hw hs
        by_cases hlt : k < 8
        · have hge : (0 : Int) ≤ 56 - 8 * (k : Int) := by omega
          have hge2 : (8 * (k : Int)) ≤ 56 := by omega
          have htn : (56 - 8 * (k : Int)).toNat = 8 * (7 - k) := by omega
          go_wp2_with (first
            | (at_builtin
               refine app_own rfl (.tmp 37) (.tmp 42) _ rfl (w.heap.size + 1 + 1) 5 i0 _ 1 1 Try.underlying33 hi0 hz0 hz1 hz2 rfl (by omega) _ (T - 8 + k) _ rfl
                 HW.out [_] _ rfl rfl (by simp [Value.oneCell']) (by omega) (by omega) hsz2 ?_
               intro v4 w4 hown4 hg4))
          have hval : ((m : Int) * 8 / 2 ^ (8 * (7 - k))) % 256 = ((P (T - 8 + k)).toNat : Int) := by
            have e1 : P (T - 8 + k) = lenByte m k := by
              have hT := HT.out
              rw [HPe.out]
              show padF m f _ = _
              unfold padF
              rw [if_neg (by omega), if_neg (by omega), if_neg (by omega)]
              congr 1
              omega
            rw [e1]
            unfold lenByte
            rw [UInt8.toNat_ofNat', Nat.mod_eq_of_lt (a := m * 8) (by omega)]
            push_cast
            rfl
          have hown5 : w4.ownsRow (w.heap.size + 1 + 1) 5 1 v4 (T - 8 + (k + 1)) (bytesOf (T - 8 + (k + 1)) P) := by
            rw [← Nat.add_assoc, bytesOf_snoc, ← hval]; exact hown4
          go_roundw
          case rel => exact ⟨k + 1, by omega, by congr 1; omega, hown5, HS.out.grown hg4 (fun g e => (HW.out.lt g e).1)⟩
          case measure => simp [intOf]; omega
        · obtain rfl : k = 8 := by omega
          obtain ⟨sa, sb, sc, sd, se, sf, sg, sh, hst⟩ : ∃ sa sb sc sd se sf sg sh, blocks begin0 f (m / 64) = ⟨sa, sb, sc, sd, se, sf, sg, sh⟩ := ⟨_, _, _, _, _, _, _, _, rfl⟩
          have hkD := HK.out.below HS.out.bel hDlt
          rw [hst] at hkD
          have xd0 : wr.cell? ⟨D, 0, none⟩ = some (.int .u32 sa.toNat) := hkD.cell 0
          have xd1 : wr.cell? ⟨D, 1, none⟩ = some (.int .u32 sb.toNat) := hkD.cell 1
          have xd2 : wr.cell? ⟨D, 2, none⟩ = some (.int .u32 sc.toNat) := hkD.cell 2
          have xd3 : wr.cell? ⟨D, 3, none⟩ = some (.int .u32 sd.toNat) := hkD.cell 3
          have xd4 : wr.cell? ⟨D, 4, none⟩ = some (.int .u32 se.toNat) := hkD.cell 4
          have xd5 : wr.cell? ⟨D, 5, none⟩ = some (.int .u32 sf.toNat) := hkD.cell 5
          have xd6 : wr.cell? ⟨D, 6, none⟩ = some (.int .u32 sg.toNat) := hkD.cell 6
          have xd7 : wr.cell? ⟨D, 7, none⟩ = some (.int .u32 sh.toNat) := hkD.cell 7
          have HST := Lib.hid hst
          clear hst hkD hlt
          go_wp2_with fail
          obtain ⟨wo2, rfl⟩ : ∃ wo : World, wo = wr := ⟨_, rfl⟩
          have e88 : T - 8 + 8 = T := by omega
          rw [e88]
          have HB0 : Hid (Blk (wo2.alloc (Obj.cells #[.int .u32 sa.toNat, .int .u32 sb.toNat, .int .u32 sc.toNat, .int .u32 sd.toNat, .int .u32 se.toNat, .int .u32 sf.toNat, .int .u32 sg.toNat, .int .u32 sh.toNat] 94)) wo2.heap.size 94 (stCells (blocks begin0 (padF m f) (m / 64 + 0)))) := by
            rw [blocks_congr begin0 (m / 64 + 0) (f := padF m f) (f' := f) (fun j hj => by unfold padF; rw [if_pos (by omega)])]
            show Blk _ _ _ (stCells (blocks begin0 f (m / 64)))
            rw [HST.out]
            exact Blk.new _ _ _
          clear xd0 xd1 xd2 xd3 xd4 xd5 xd6 xd7 HST
          go_loopw [4] (fun i wr => TailAt w wr wo2.heap.size g3 T m f P i) (fun i _ => sliceLen i)
          case atStart =>
            have ha := HA3.out (by omega)
            refine ⟨0, A3, 0, c3, by simp, by omega, fun _ => ⟨ha.1, ha.2.2.1⟩, by omega, hcm3, ?_, HS.out.alloc _, HB0.out⟩
            intro j hj
            have h := HC3.out j (by omega)
            rw [Nat.mul_zero]
            rw [Nat.zero_add] at h
            simp only [Nat.zero_add]
            exact (World.cell?_alloc_lt _ _ _ ha.2.2.1).trans h
          case round =>
            obtain ⟨k, A', o, c', rfl, hk, hA', hc', hcm', hcell, hsm, hb⟩ := hrel
            clear HB0
            by_cases hlt : 0 < T - 64 * k
            · skip
              have hT64 : 64 ≤ T - 64 * k := by omega
              have hk64 : 64 * k + 64 ≤ T := by omega
              obtain ⟨rfl, hgl⟩ := hA' hlt
              obtain ⟨sa, sb, sc, sd, se, sf, sg, sh, hst⟩ : ∃ sa sb sc sd se sf sg sh, blocks begin0 (padF m f) (m / 64 + k) = ⟨sa, sb, sc, sd, se, sf, sg, sh⟩ := ⟨_, _, _, _, _, _, _, _, rfl⟩
              have HS3 : Hid (blocks begin0 (padF m f) (m / 64 + (k + 1)) = block ⟨sa, sb, sc, sd, se, sf, sg, sh⟩ (fun j => P (64 * k + j))) := by
                show _ = _
                rw [← hst]
                show block _ _ = _
                refine block_congr _ (fun j _ => ?_)
                rw [HPe.out]
                have e : 64 * (m / 64 + k) + j = 64 * (m / 64) + (64 * k + j) := by omega
                show padF m f (64 * (m / 64 + k) + j) = padF m f (64 * (m / 64) + (64 * k + j))
                rw [e]
              rw [hst] at hb
              clear hst
              have hcc : (64 : Int) ≤ c' := by omega
              have hl3 : (64 : Int) ≤ ((T - 64 * k : Nat) : Int) := by omega
              have hl4 : (0 : Int) < ((T - 64 * k : Nat) : Int) := by omega
              have x0 : wr.cell? ⟨wo2.heap.size, 0, none⟩ = some (.int .u32 sa.toNat) := hb.cell 0
              have x1 : wr.cell? ⟨wo2.heap.size, 1, none⟩ = some (.int .u32 sb.toNat) := hb.cell 1
              have x2 : wr.cell? ⟨wo2.heap.size, 2, none⟩ = some (.int .u32 sc.toNat) := hb.cell 2
              have x3 : wr.cell? ⟨wo2.heap.size, 3, none⟩ = some (.int .u32 sd.toNat) := hb.cell 3
              have x4 : wr.cell? ⟨wo2.heap.size, 4, none⟩ = some (.int .u32 se.toNat) := hb.cell 4
              have x5 : wr.cell? ⟨wo2.heap.size, 5, none⟩ = some (.int .u32 sf.toNat) := hb.cell 5
              have x6 : wr.cell? ⟨wo2.heap.size, 6, none⟩ = some (.int .u32 sg.toNat) := hb.cell 6
              have x7 : wr.cell? ⟨wo2.heap.size, 7, none⟩ = some (.int .u32 sh.toNat) := hb.cell 7
              have HCALL := fun w1 (hw1 : Below wr.heap.size wr w1) => block_any ⟨sa, sb, sc, sd, se, sf, sg, sh⟩ g3 o c' (fun j => P (64 * k + j)) w1 (fun j hj => (hw1.cell (p := ⟨g3, o + j, none⟩) (World.block_lt_of_cell? wr _ (hcell j (by omega)))).trans (hcell j (by omega)))
              have HCL := Lib.hid HCALL
              have hST : ∀ w2, Below wr.heap.size wr w2 → w2.cell? ⟨wo2.heap.size, 0, none⟩ = some (.int .u32 sa.toNat) ∧ w2.frozen? ⟨wo2.heap.size, 0, none⟩ = false ∧ w2.cell? ⟨wo2.heap.size, 1, none⟩ = some (.int .u32 sb.toNat) ∧ w2.frozen? ⟨wo2.heap.size, 1, none⟩ = false ∧ w2.cell? ⟨wo2.heap.size, 2, none⟩ = some (.int .u32 sc.toNat) ∧ w2.frozen? ⟨wo2.heap.size, 2, none⟩ = false ∧ w2.cell? ⟨wo2.heap.size, 3, none⟩ = some (.int .u32 sd.toNat) ∧ w2.frozen? ⟨wo2.heap.size, 3, none⟩ = false ∧ w2.cell? ⟨wo2.heap.size, 4, none⟩ = some (.int .u32 se.toNat) ∧ w2.frozen? ⟨wo2.heap.size, 4, none⟩ = false ∧ w2.cell? ⟨wo2.heap.size, 5, none⟩ = some (.int .u32 sf.toNat) ∧ w2.frozen? ⟨wo2.heap.size, 5, none⟩ = false ∧ w2.cell? ⟨wo2.heap.size, 6, none⟩ = some (.int .u32 sg.toNat) ∧ w2.frozen? ⟨wo2.heap.size, 6, none⟩ = false ∧ w2.cell? ⟨wo2.heap.size, 7, none⟩ = some (.int .u32 sh.toNat) ∧ w2.frozen? ⟨wo2.heap.size, 7, none⟩ = false := by
                intro w2 hb2
                have hk2 := hb.below hb2 hb.lt
                exact ⟨hk2.cell 0, hk2.frozen 0, hk2.cell 1, hk2.frozen 1, hk2.cell 2, hk2.frozen 2, hk2.cell 3, hk2.frozen 3, hk2.cell 4, hk2.frozen 4, hk2.cell 5, hk2.frozen 5, hk2.cell 6, hk2.frozen 6, hk2.cell 7, hk2.frozen 7⟩
              have HST := Lib.hid hST
              have HCELL := Lib.hid hcell
              have HSM := Lib.hid hsm
              have HBK := Lib.hid hb
              clear hST HCALL hcell hsm hb hT64
              go_wp2_with (fail)
              go_region_law (first | (go_simp; go_at_call 59; refine (HCL.out _ (below_drewN (Below.refl _ _) _)).mono ?_; rintro e w2 ⟨rfl, hb2⟩; obtain ⟨z0, y0, z1, y1, z2, y2, z3, y3, z4, y4, z5, y5, z6, y6, z7, y7⟩ := HST.out w2 (below_of_drewN hb2)))
              go_wp2_with (fail)
              all_goals have hnext := fun v hv => TailAt.step (v := v) (hv := hv) (block ⟨sa, sb, sc, sd, se, sf, sg, sh⟩ (fun j => P (64 * k + j))) hk64 hgl hc' hcm' HCELL.out HSM.out HBK.out hsz2 (below_of_drewN hb2) HS3.out
              all_goals go_roundw
              all_goals first
                | (case rel => exact hnext _ (by first | (simp [*]; done) | (rw [if_neg (by assumption)])))
                | skip
              all_goals (simp [sliceLen]; omega)
            · have hl5 : T - 64 * k = 0 := by omega
              rw [hl5]
              obtain ⟨S, hS⟩ : ∃ S, blocks begin0 (padF m f) (m / 64 + k) = S := ⟨_, rfl⟩
              have HSS : Hid (sha m f = outByte S) := by
                have hT := HT.out
                show _ = _
                rw [← hS]
                funext i
                show outByte (blocks begin0 (padF m f) (padLen m / 64)) i = _
                rw [show padLen m / 64 = m / 64 + k by omega]
              rw [hS] at hb
              clear hS
              obtain ⟨sa, sb, sc, sd, se, sf, sg, sh⟩ := S
              have x0 : wr.cell? ⟨wo2.heap.size, 0, none⟩ = some (.int .u32 sa.toNat) := hb.cell 0
              have x1 : wr.cell? ⟨wo2.heap.size, 1, none⟩ = some (.int .u32 sb.toNat) := hb.cell 1
              have x2 : wr.cell? ⟨wo2.heap.size, 2, none⟩ = some (.int .u32 sc.toNat) := hb.cell 2
              have x3 : wr.cell? ⟨wo2.heap.size, 3, none⟩ = some (.int .u32 sd.toNat) := hb.cell 3
              have x4 : wr.cell? ⟨wo2.heap.size, 4, none⟩ = some (.int .u32 se.toNat) := hb.cell 4
              have x5 : wr.cell? ⟨wo2.heap.size, 5, none⟩ = some (.int .u32 sf.toNat) := hb.cell 5
              have x6 : wr.cell? ⟨wo2.heap.size, 6, none⟩ = some (.int .u32 sg.toNat) := hb.cell 6
              have x7 : wr.cell? ⟨wo2.heap.size, 7, none⟩ = some (.int .u32 sh.toNat) := hb.cell 7
              have HSM := Lib.hid hsm
              clear hsm hb hcell hA' hl5 hlt
              go_wp2_with fail
              obtain ⟨wo3, rfl⟩ : ∃ wo : World, wo = wr := ⟨_, rfl⟩
              clear x0 x1 x2 x3 x4 x5 x6 x7
              go_loopw [58] (fun i wr => ∃ k : Nat, k ≤ 8 ∧ i = .int .i64 k ∧ SM w wr (outAt ⟨sa, sb, sc, sd, se, sf, sg, sh⟩ k)) (fun i _ => (8 - intOf i).toNat)
              case atStart => exact ⟨0, by omega, rfl, HSM.out⟩
              case round =>
                obtain ⟨k2, hk2, rfl, hM⟩ := hrel
                clear HSM
                by_cases hlt : k2 < 8
                · have e8 : k2 = 0 ∨ k2 = 1 ∨ k2 = 2 ∨ k2 = 3 ∨ k2 = 4 ∨ k2 = 5 ∨ k2 = 6 ∨ k2 = 7 := by omega
                  rcases e8 with rfl | rfl | rfl | rfl | rfl | rfl | rfl | rfl
                  · have y0 : wr.cell? ⟨w.heap.size + 1, 0, none⟩ = some (.int .u8 _) := hM.out.cell (i := 0) (by omega)
                    have y1 : wr.cell? ⟨w.heap.size + 1, 1, none⟩ = some (.int .u8 _) := hM.out.cell (i := 1) (by omega)
                    have y2 : wr.cell? ⟨w.heap.size + 1, 2, none⟩ = some (.int .u8 _) := hM.out.cell (i := 2) (by omega)
                    have y3 : wr.cell? ⟨w.heap.size + 1, 3, none⟩ = some (.int .u8 _) := hM.out.cell (i := 3) (by omega)
                    have z0 : wr.frozen? ⟨w.heap.size + 1, 0, none⟩ = false := hM.out.frozen 0
                    have z1 : wr.frozen? ⟨w.heap.size + 1, 1, none⟩ = false := hM.out.frozen 1
                    have z2 : wr.frozen? ⟨w.heap.size + 1, 2, none⟩ = false := hM.out.frozen 2
                    have z3 : wr.frozen? ⟨w.heap.size + 1, 3, none⟩ = false := hM.out.frozen 3
                    have HM := Lib.hid hM
                    clear hM
                    have ix : ∀ w, (Instr.index 94 (.agg #[.int .u32 sa.toNat, .int .u32 sb.toNat, .int .u32 sc.toNat, .int .u32 sd.toNat, .int .u32 se.toNat, .int .u32 sf.toNat, .int .u32 sg.toNat, .int .u32 sh.toNat]) (.int .i64 0)).run Try.prog w = .ok (.int .u32 sa.toNat) w := fun _ => by kernel_rfl
                    rw [show ((0 : Nat) : Int) = 0 from rfl]
                    go_wp2_with fail
                    go_roundw
                    case rel => exact ⟨1, by omega, rfl, HM.out.out4 (by omega)⟩
                    case measure => simp [intOf]
                  · have y0 : wr.cell? ⟨w.heap.size + 1, 4, none⟩ = some (.int .u8 _) := hM.out.cell (i := 4) (by omega)
                    have y1 : wr.cell? ⟨w.heap.size + 1, 5, none⟩ = some (.int .u8 _) := hM.out.cell (i := 5) (by omega)
                    have y2 : wr.cell? ⟨w.heap.size + 1, 6, none⟩ = some (.int .u8 _) := hM.out.cell (i := 6) (by omega)
                    have y3 : wr.cell? ⟨w.heap.size + 1, 7, none⟩ = some (.int .u8 _) := hM.out.cell (i := 7) (by omega)
                    have z0 : wr.frozen? ⟨w.heap.size + 1, 4, none⟩ = false := hM.out.frozen 4
                    have z1 : wr.frozen? ⟨w.heap.size + 1, 5, none⟩ = false := hM.out.frozen 5
                    have z2 : wr.frozen? ⟨w.heap.size + 1, 6, none⟩ = false := hM.out.frozen 6
                    have z3 : wr.frozen? ⟨w.heap.size + 1, 7, none⟩ = false := hM.out.frozen 7
                    have HM := Lib.hid hM
                    clear hM
                    have ix : ∀ w, (Instr.index 94 (.agg #[.int .u32 sa.toNat, .int .u32 sb.toNat, .int .u32 sc.toNat, .int .u32 sd.toNat, .int .u32 se.toNat, .int .u32 sf.toNat, .int .u32 sg.toNat, .int .u32 sh.toNat]) (.int .i64 1)).run Try.prog w = .ok (.int .u32 sb.toNat) w := fun _ => by kernel_rfl
                    rw [show ((1 : Nat) : Int) = 1 from rfl]
                    go_wp2_with fail
                    go_roundw
                    case rel => exact ⟨2, by omega, rfl, HM.out.out4 (by omega)⟩
                    case measure => simp [intOf]
                  · have y0 : wr.cell? ⟨w.heap.size + 1, 8, none⟩ = some (.int .u8 _) := hM.out.cell (i := 8) (by omega)
                    have y1 : wr.cell? ⟨w.heap.size + 1, 9, none⟩ = some (.int .u8 _) := hM.out.cell (i := 9) (by omega)
                    have y2 : wr.cell? ⟨w.heap.size + 1, 10, none⟩ = some (.int .u8 _) := hM.out.cell (i := 10) (by omega)
                    have y3 : wr.cell? ⟨w.heap.size + 1, 11, none⟩ = some (.int .u8 _) := hM.out.cell (i := 11) (by omega)
                    have z0 : wr.frozen? ⟨w.heap.size + 1, 8, none⟩ = false := hM.out.frozen 8
                    have z1 : wr.frozen? ⟨w.heap.size + 1, 9, none⟩ = false := hM.out.frozen 9
                    have z2 : wr.frozen? ⟨w.heap.size + 1, 10, none⟩ = false := hM.out.frozen 10
                    have z3 : wr.frozen? ⟨w.heap.size + 1, 11, none⟩ = false := hM.out.frozen 11
                    have HM := Lib.hid hM
                    clear hM
                    have ix : ∀ w, (Instr.index 94 (.agg #[.int .u32 sa.toNat, .int .u32 sb.toNat, .int .u32 sc.toNat, .int .u32 sd.toNat, .int .u32 se.toNat, .int .u32 sf.toNat, .int .u32 sg.toNat, .int .u32 sh.toNat]) (.int .i64 2)).run Try.prog w = .ok (.int .u32 sc.toNat) w := fun _ => by kernel_rfl
                    rw [show ((2 : Nat) : Int) = 2 from rfl]
                    go_wp2_with fail
                    go_roundw
                    case rel => exact ⟨3, by omega, rfl, HM.out.out4 (by omega)⟩
                    case measure => simp [intOf]
                  · have y0 : wr.cell? ⟨w.heap.size + 1, 12, none⟩ = some (.int .u8 _) := hM.out.cell (i := 12) (by omega)
                    have y1 : wr.cell? ⟨w.heap.size + 1, 13, none⟩ = some (.int .u8 _) := hM.out.cell (i := 13) (by omega)
                    have y2 : wr.cell? ⟨w.heap.size + 1, 14, none⟩ = some (.int .u8 _) := hM.out.cell (i := 14) (by omega)
                    have y3 : wr.cell? ⟨w.heap.size + 1, 15, none⟩ = some (.int .u8 _) := hM.out.cell (i := 15) (by omega)
                    have z0 : wr.frozen? ⟨w.heap.size + 1, 12, none⟩ = false := hM.out.frozen 12
                    have z1 : wr.frozen? ⟨w.heap.size + 1, 13, none⟩ = false := hM.out.frozen 13
                    have z2 : wr.frozen? ⟨w.heap.size + 1, 14, none⟩ = false := hM.out.frozen 14
                    have z3 : wr.frozen? ⟨w.heap.size + 1, 15, none⟩ = false := hM.out.frozen 15
                    have HM := Lib.hid hM
                    clear hM
                    have ix : ∀ w, (Instr.index 94 (.agg #[.int .u32 sa.toNat, .int .u32 sb.toNat, .int .u32 sc.toNat, .int .u32 sd.toNat, .int .u32 se.toNat, .int .u32 sf.toNat, .int .u32 sg.toNat, .int .u32 sh.toNat]) (.int .i64 3)).run Try.prog w = .ok (.int .u32 sd.toNat) w := fun _ => by kernel_rfl
                    rw [show ((3 : Nat) : Int) = 3 from rfl]
                    go_wp2_with fail
                    go_roundw
                    case rel => exact ⟨4, by omega, rfl, HM.out.out4 (by omega)⟩
                    case measure => simp [intOf]
                  · have y0 : wr.cell? ⟨w.heap.size + 1, 16, none⟩ = some (.int .u8 _) := hM.out.cell (i := 16) (by omega)
                    have y1 : wr.cell? ⟨w.heap.size + 1, 17, none⟩ = some (.int .u8 _) := hM.out.cell (i := 17) (by omega)
                    have y2 : wr.cell? ⟨w.heap.size + 1, 18, none⟩ = some (.int .u8 _) := hM.out.cell (i := 18) (by omega)
                    have y3 : wr.cell? ⟨w.heap.size + 1, 19, none⟩ = some (.int .u8 _) := hM.out.cell (i := 19) (by omega)
                    have z0 : wr.frozen? ⟨w.heap.size + 1, 16, none⟩ = false := hM.out.frozen 16
                    have z1 : wr.frozen? ⟨w.heap.size + 1, 17, none⟩ = false := hM.out.frozen 17
                    have z2 : wr.frozen? ⟨w.heap.size + 1, 18, none⟩ = false := hM.out.frozen 18
                    have z3 : wr.frozen? ⟨w.heap.size + 1, 19, none⟩ = false := hM.out.frozen 19
                    have HM := Lib.hid hM
                    clear hM
                    have ix : ∀ w, (Instr.index 94 (.agg #[.int .u32 sa.toNat, .int .u32 sb.toNat, .int .u32 sc.toNat, .int .u32 sd.toNat, .int .u32 se.toNat, .int .u32 sf.toNat, .int .u32 sg.toNat, .int .u32 sh.toNat]) (.int .i64 4)).run Try.prog w = .ok (.int .u32 se.toNat) w := fun _ => by kernel_rfl
                    rw [show ((4 : Nat) : Int) = 4 from rfl]
                    go_wp2_with fail
                    go_roundw
                    case rel => exact ⟨5, by omega, rfl, HM.out.out4 (by omega)⟩
                    case measure => simp [intOf]
                  · have y0 : wr.cell? ⟨w.heap.size + 1, 20, none⟩ = some (.int .u8 _) := hM.out.cell (i := 20) (by omega)
                    have y1 : wr.cell? ⟨w.heap.size + 1, 21, none⟩ = some (.int .u8 _) := hM.out.cell (i := 21) (by omega)
                    have y2 : wr.cell? ⟨w.heap.size + 1, 22, none⟩ = some (.int .u8 _) := hM.out.cell (i := 22) (by omega)
                    have y3 : wr.cell? ⟨w.heap.size + 1, 23, none⟩ = some (.int .u8 _) := hM.out.cell (i := 23) (by omega)
                    have z0 : wr.frozen? ⟨w.heap.size + 1, 20, none⟩ = false := hM.out.frozen 20
                    have z1 : wr.frozen? ⟨w.heap.size + 1, 21, none⟩ = false := hM.out.frozen 21
                    have z2 : wr.frozen? ⟨w.heap.size + 1, 22, none⟩ = false := hM.out.frozen 22
                    have z3 : wr.frozen? ⟨w.heap.size + 1, 23, none⟩ = false := hM.out.frozen 23
                    have HM := Lib.hid hM
                    clear hM
                    have ix : ∀ w, (Instr.index 94 (.agg #[.int .u32 sa.toNat, .int .u32 sb.toNat, .int .u32 sc.toNat, .int .u32 sd.toNat, .int .u32 se.toNat, .int .u32 sf.toNat, .int .u32 sg.toNat, .int .u32 sh.toNat]) (.int .i64 5)).run Try.prog w = .ok (.int .u32 sf.toNat) w := fun _ => by kernel_rfl
                    rw [show ((5 : Nat) : Int) = 5 from rfl]
                    go_wp2_with fail
                    go_roundw
                    case rel => exact ⟨6, by omega, rfl, HM.out.out4 (by omega)⟩
                    case measure => simp [intOf]
                  · have y0 : wr.cell? ⟨w.heap.size + 1, 24, none⟩ = some (.int .u8 _) := hM.out.cell (i := 24) (by omega)
                    have y1 : wr.cell? ⟨w.heap.size + 1, 25, none⟩ = some (.int .u8 _) := hM.out.cell (i := 25) (by omega)
                    have y2 : wr.cell? ⟨w.heap.size + 1, 26, none⟩ = some (.int .u8 _) := hM.out.cell (i := 26) (by omega)
                    have y3 : wr.cell? ⟨w.heap.size + 1, 27, none⟩ = some (.int .u8 _) := hM.out.cell (i := 27) (by omega)
                    have z0 : wr.frozen? ⟨w.heap.size + 1, 24, none⟩ = false := hM.out.frozen 24
                    have z1 : wr.frozen? ⟨w.heap.size + 1, 25, none⟩ = false := hM.out.frozen 25
                    have z2 : wr.frozen? ⟨w.heap.size + 1, 26, none⟩ = false := hM.out.frozen 26
                    have z3 : wr.frozen? ⟨w.heap.size + 1, 27, none⟩ = false := hM.out.frozen 27
                    have HM := Lib.hid hM
                    clear hM
                    have ix : ∀ w, (Instr.index 94 (.agg #[.int .u32 sa.toNat, .int .u32 sb.toNat, .int .u32 sc.toNat, .int .u32 sd.toNat, .int .u32 se.toNat, .int .u32 sf.toNat, .int .u32 sg.toNat, .int .u32 sh.toNat]) (.int .i64 6)).run Try.prog w = .ok (.int .u32 sg.toNat) w := fun _ => by kernel_rfl
                    rw [show ((6 : Nat) : Int) = 6 from rfl]
                    go_wp2_with fail
                    go_roundw
                    case rel => exact ⟨7, by omega, rfl, HM.out.out4 (by omega)⟩
                    case measure => simp [intOf]
                  · have y0 : wr.cell? ⟨w.heap.size + 1, 28, none⟩ = some (.int .u8 _) := hM.out.cell (i := 28) (by omega)
                    have y1 : wr.cell? ⟨w.heap.size + 1, 29, none⟩ = some (.int .u8 _) := hM.out.cell (i := 29) (by omega)
                    have y2 : wr.cell? ⟨w.heap.size + 1, 30, none⟩ = some (.int .u8 _) := hM.out.cell (i := 30) (by omega)
                    have y3 : wr.cell? ⟨w.heap.size + 1, 31, none⟩ = some (.int .u8 _) := hM.out.cell (i := 31) (by omega)
                    have z0 : wr.frozen? ⟨w.heap.size + 1, 28, none⟩ = false := hM.out.frozen 28
                    have z1 : wr.frozen? ⟨w.heap.size + 1, 29, none⟩ = false := hM.out.frozen 29
                    have z2 : wr.frozen? ⟨w.heap.size + 1, 30, none⟩ = false := hM.out.frozen 30
                    have z3 : wr.frozen? ⟨w.heap.size + 1, 31, none⟩ = false := hM.out.frozen 31
                    have HM := Lib.hid hM
                    clear hM
                    have ix : ∀ w, (Instr.index 94 (.agg #[.int .u32 sa.toNat, .int .u32 sb.toNat, .int .u32 sc.toNat, .int .u32 sd.toNat, .int .u32 se.toNat, .int .u32 sf.toNat, .int .u32 sg.toNat, .int .u32 sh.toNat]) (.int .i64 7)).run Try.prog w = .ok (.int .u32 sh.toNat) w := fun _ => by kernel_rfl
                    rw [show ((7 : Nat) : Int) = 7 from rfl]
                    go_wp2_with fail
                    go_roundw
                    case rel => exact ⟨8, by omega, rfl, HM.out.out4 (by omega)⟩
                    case measure => simp [intOf]
                · obtain rfl : k2 = 8 := by omega
                  rw [show ((8 : Nat) : Int) = 8 from rfl]
                  have hko := key_heap hM.out
                  have hkr : ∃ old, wr.heap[w.heap.size]? = some (.cells old 23 (0, 0)) ∧ old.size = 32 := by
                    obtain ⟨cs, h1, h2, _⟩ := hM.ret
                    exact ⟨cs, h1, h2⟩
                  obtain ⟨old, hkr, hold⟩ := hkr
                  have HM := Lib.hid hM
                  have HKO := Lib.hid hko
                  have HKR := Lib.hid hkr
                  obtain ⟨ks, hks⟩ : ∃ ks, (bytesOf 32 (outAt ⟨sa, sb, sc, sd, se, sf, sg, sh⟩ 8)).toArray = ks := ⟨_, rfl⟩
                  have hks1 : ks.size = 32 := by rw [← hks]; simp only [List.size_toArray]; exact bytesOf_length _ _
                  have hks2 : ks.all (·.oneCell') = true := by
                    rw [← hks]
                    exact all_one _ (bytesOf_one _ _)
                  rw [hks] at HKO
                  have HKS := Lib.hid hks
                  clear hM hko hkr hks
                  go_wp2_with (first
                    | (refine wpList_load_row rfl 23 (.tmp 3) rfl (w.heap.size + 1) rfl _ ks (0, 0) _ HKO.out Try.underlying23 rfl (by rw [hks1]; kernel_rfl) ?_)
                    | (refine wpList_store_rowTo rfl 23 (.tmp 2) (.tmp 89) rfl rfl w.heap.size ks rfl rfl _ _ HKR.out (by rw [hks1]; kernel_rfl) (by rw [hks1, hold]) hks2 ?_))
                  refine bodyPost_ret (results_cell_row rfl _ _ w.heap.size _ ks (0, 0) _ rfl (setRow_same _ _ _ _ _ HKR.out) Try.underlying23 rfl (by rw [hks1]; kernel_rfl)) rfl ⟨?_, ?_⟩
                  · rw [← HKS.out]
                    show Ending.returned (.agg _) = Ending.returned (.agg _)
                    rw [HSS.out, bytesOf_congr (f := outAt _ 8) (g := outByte _) (fun j hj => if_pos (by omega))]
                  · exact below_setRow HM.out.bel (Nat.le_refl _) _
    · have ht : ((((l : Nat) : Int) % 64) != 56) = true := bne_iff_ne.mpr (by omega)
      have hnn : (0 : Int) ≤ l := by omega
      have HQ := Lib.hid hlt
      clear hlt
      go_wp2_with (first
        | (at_builtin
           refine app_own rfl (.tmp 24) (.tmp 25) _ rfl (w.heap.size + 1 + 1) 5 i0 _ 1 1 Try.underlying33 hi0 hz0 hz1 hz2 rfl (by omega) _ l _ rfl
             HW.out [.int .u8 0] _ rfl rfl (by simp [Value.oneCell']) (by omega) (by omega) hsz ?_
           intro v3 w3 hown3 hg3))
      have hPl : P l = 0 := by
        have hT := HT.out
        rw [HPe.out]
        show padF m f _ = _
        unfold padF
        have := HQ.out
        rw [if_neg (by omega), if_neg (by omega), if_pos (by omega)]
      have hown4 : w3.ownsRow (w.heap.size + 1 + 1) 5 1 v3 (l + 1) (bytesOf (l + 1) P) := by
        rw [bytesOf_snoc, hPl]; exact hown3
      obtain ⟨A5, g5, c5, rfl, _⟩ := own_bytes hown4
      have hlq := HQ.out
      go_roundw
      case rel => exact ⟨l + 1, by omega, by omega, hown4, HS.out.grown hg3 (fun g e => (HW.out.lt g e).1)⟩
      case measure => simp [sliceLen]; omega
end Go.Proofs.Ytnhggaghidbniaa
