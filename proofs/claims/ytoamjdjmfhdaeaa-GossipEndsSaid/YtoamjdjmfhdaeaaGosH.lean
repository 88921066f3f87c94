/- The laws' known. -/
import Derived.Test.YtoamjdjmfhdaeaaGosG
namespace Go.Proofs.Ytoamjdjmfhdaeaa
open Go.RowKit
set_option linter.unusedVariables false
set_option linter.unusedSimpArgs false
open ShaW Sha

def kE (b : UInt8) (ps : List Int) : Ent := ⟨oneKey b, 1, fun _ => b, ByteArray.empty, 0, 0, 0, 0, 0, 0, ps⟩
def kX1 (B : Nat) : EItem := ⟨kE 1 [2], .slice (some ⟨B, 0, none⟩) 1 1, .slice (some ⟨B + 1, 0, none⟩) 1 1⟩
def kX2 (B : Nat) : EItem := ⟨kE 2 [], .slice (some ⟨B + 1 + 1, 0, none⟩) 1 1, .slice none 0 0⟩
theorem kL_lit (B : Nat) : (entsOf [kX1 B, kX2 B]).toArray = #[.int .u8 1, .int .u8 0, .int .u8 0, .int .u8 0, .int .u8 0, .int .u8 0, .int .u8 0, .int .u8 0, .int .u8 0, .int .u8 0, .int .u8 0, .int .u8 0, .int .u8 0, .int .u8 0, .int .u8 0, .int .u8 0, .int .u8 0, .int .u8 0, .int .u8 0, .int .u8 0, .int .u8 0, .int .u8 0, .int .u8 0, .int .u8 0, .int .u8 0, .int .u8 0, .int .u8 0, .int .u8 0, .int .u8 0, .int .u8 0, .int .u8 0, .int .u8 0, .slice (some ⟨B, 0, none⟩) 1 1, .string { data := #[] }, .int .u64 0, .int .u64 0, .int .u64 0, .int .i64 0, .int .i64 0, .int .i64 0, .slice (some ⟨B + 1, 0, none⟩) 1 1, .int .u8 2, .int .u8 0, .int .u8 0, .int .u8 0, .int .u8 0, .int .u8 0, .int .u8 0, .int .u8 0, .int .u8 0, .int .u8 0, .int .u8 0, .int .u8 0, .int .u8 0, .int .u8 0, .int .u8 0, .int .u8 0, .int .u8 0, .int .u8 0, .int .u8 0, .int .u8 0, .int .u8 0, .int .u8 0, .int .u8 0, .int .u8 0, .int .u8 0, .int .u8 0, .int .u8 0, .int .u8 0, .int .u8 0, .int .u8 0, .int .u8 0, .int .u8 0, .slice (some ⟨B + 1 + 1, 0, none⟩) 1 1, .string { data := #[] }, .int .u64 0, .int .u64 0, .int .u64 0, .int .i64 0, .int .i64 0, .int .i64 0, .slice none 0 0] := by kernel_rfl
theorem one_rd {w : World} {ty : TypeId} {g : Nat} {v : Value} {mk : Nat × Nat} (h : w.heap[g]? = some (.cells #[v] ty mk)) : RdT w ty (.slice (some ⟨g, 0, none⟩) 1 1) 1 [v] := by
  have hlt : g < w.heap.size := (Array.getElem?_eq_some_iff.1 h).1
  refine ⟨_, _, rfl, ⟨rfl, fun _ => ⟨_, rfl, hlt, fun j u hu => ?_⟩⟩, fun _ => ⟨g, 0, _, mk, rfl, h⟩⟩
  rw [add_flat, Nat.zero_add]
  unfold World.cell?
  show (match w.heap[g]? with | some (.cells vs _ _) => vs[j]? | _ => none) = _
  rw [h]
  match j, hu with
  | 0, hu => exact hu
theorem known_ents (w : World) : EntsAt ((((w.alloc (.cells #[.int .u8 1] 5)).alloc (.cells #[.int .i64 2] 3)).alloc (.cells #[.int .u8 2] 5)).alloc (.cells (entsOf [kX1 w.heap.size, kX2 w.heap.size]).toArray 47)) (some ⟨w.heap.size + 1 + 1 + 1, 0, none⟩) 2 2 [kX1 w.heap.size, kX2 w.heap.size] := by
  have h0 : Blk (w.alloc (.cells #[.int .u8 1] 5)) w.heap.size 5 #[.int .u8 1] := Blk.new _ _ _
  have h1 : Blk ((w.alloc (.cells #[.int .u8 1] 5)).alloc (.cells #[.int .i64 2] 3)) (w.heap.size + 1) 3 #[.int .i64 2] := heap_alloc_at _ _ _ (by simp)
  have h2 : Blk (((w.alloc (.cells #[.int .u8 1] 5)).alloc (.cells #[.int .i64 2] 3)).alloc (.cells #[.int .u8 2] 5)) (w.heap.size + 1 + 1) 5 #[.int .u8 2] := heap_alloc_at _ _ _ (by simp)
  have h0 := ((h0.alloc (.cells #[.int .i64 2] 3)).alloc (.cells #[.int .u8 2] 5)).alloc (.cells (entsOf [kX1 w.heap.size, kX2 w.heap.size]).toArray 47)
  have h1 := (h1.alloc (.cells #[.int .u8 2] 5)).alloc (.cells (entsOf [kX1 w.heap.size, kX2 w.heap.size]).toArray 47)
  have h2 := h2.alloc (.cells (entsOf [kX1 w.heap.size, kX2 w.heap.size]).toArray 47)
  have h3 : Blk ((((w.alloc (.cells #[.int .u8 1] 5)).alloc (.cells #[.int .i64 2] 3)).alloc (.cells #[.int .u8 2] 5)).alloc (.cells (entsOf [kX1 w.heap.size, kX2 w.heap.size]).toArray 47)) (w.heap.size + 1 + 1 + 1) 47 (entsOf [kX1 w.heap.size, kX2 w.heap.size]).toArray := heap_alloc_at _ _ _ (by simp)
  refine ⟨rfl, Nat.le_refl _, by omega, ⟨w.heap.size + 1 + 1 + 1, 0, fun _ => rfl, fun j u hu => ?_⟩, fun x hx => ?_⟩
  · rw [Nat.zero_add, h3.cell]; exact List.getElem?_toArray.trans hu
  · rcases List.mem_cons.1 hx with rfl | hx
    · exact ⟨(one_rd h0).see, (one_rd h1).see⟩
    · obtain rfl := List.mem_singleton.1 hx
      exact ⟨(one_rd h2).see, (RdT.nil _ 3).see⟩
theorem k2_lit : (bytesOf 32 (oneKey 2)).toArray = #[.int .u8 2, .int .u8 0, .int .u8 0, .int .u8 0, .int .u8 0, .int .u8 0, .int .u8 0, .int .u8 0, .int .u8 0, .int .u8 0, .int .u8 0, .int .u8 0, .int .u8 0, .int .u8 0, .int .u8 0, .int .u8 0, .int .u8 0, .int .u8 0, .int .u8 0, .int .u8 0, .int .u8 0, .int .u8 0, .int .u8 0, .int .u8 0, .int .u8 0, .int .u8 0, .int .u8 0, .int .u8 0, .int .u8 0, .int .u8 0, .int .u8 0, .int .u8 0] := by kernel_rfl
theorem k72_lit : (keysOf [oneKey 7, oneKey 2]).toArray = #[.int .u8 7, .int .u8 0, .int .u8 0, .int .u8 0, .int .u8 0, .int .u8 0, .int .u8 0, .int .u8 0, .int .u8 0, .int .u8 0, .int .u8 0, .int .u8 0, .int .u8 0, .int .u8 0, .int .u8 0, .int .u8 0, .int .u8 0, .int .u8 0, .int .u8 0, .int .u8 0, .int .u8 0, .int .u8 0, .int .u8 0, .int .u8 0, .int .u8 0, .int .u8 0, .int .u8 0, .int .u8 0, .int .u8 0, .int .u8 0, .int .u8 0, .int .u8 0, .int .u8 2, .int .u8 0, .int .u8 0, .int .u8 0, .int .u8 0, .int .u8 0, .int .u8 0, .int .u8 0, .int .u8 0, .int .u8 0, .int .u8 0, .int .u8 0, .int .u8 0, .int .u8 0, .int .u8 0, .int .u8 0, .int .u8 0, .int .u8 0, .int .u8 0, .int .u8 0, .int .u8 0, .int .u8 0, .int .u8 0, .int .u8 0, .int .u8 0, .int .u8 0, .int .u8 0, .int .u8 0, .int .u8 0, .int .u8 0, .int .u8 0, .int .u8 0] := by kernel_rfl
theorem keys_lit (w : World) (ps : List Ky) (hn : ps.length ≤ 2) : KeysAt (w.alloc (.cells (keysOf ps).toArray 41)) (some ⟨w.heap.size, 0, none⟩) ps.length ps.length ps :=
  ⟨rfl, Nat.le_refl _, by omega, w.heap.size, 0, fun _ => rfl, fun j u hu => by rw [Nat.zero_add, lit_cell]; exact List.getElem?_toArray.trans hu⟩
theorem keys_nil (w : World) : KeysAt w none 0 0 [] := ⟨rfl, Nat.le_refl _, by omega, 0, 0, fun h => absurd h (Nat.lt_irrefl _), fun j u hu => by simp [keysOf] at hu⟩
theorem one_u8 (w : World) (b : UInt8) : Reads (w.alloc (.cells #[.int .u8 (b.toNat : Int)] 5)) (w.alloc (.cells #[.int .u8 (b.toNat : Int)] 5)).heap.size 1 (some ⟨w.heap.size, 0, none⟩) 1 (bytesOf 1 (fun _ => b)) := by
  obtain ⟨A, c, e, h, _⟩ := one_rd (heap_alloc_new w (.cells #[.int .u8 (b.toNat : Int)] 5))
  injection e with e1 e2 e3
  subst e1
  exact h
def GotOne (w w1 : World) (e : Ending) (b : UInt8) : Prop := ∃ A c, e = .returned (.tuple #[.slice A 1 c, .bool true]) ∧ Below w.heap.size w w1 ∧ Reads w1 w1.heap.size 1 A 1 (bytesOf 1 (fun _ => b))
def GotNone (w w1 : World) (e : Ending) : Prop := ∃ A c, e = .returned (.tuple #[.slice A 0 c, .bool false]) ∧ Below w.heap.size w w1
set_option maxRecDepth 100000 in
set_option maxHeartbeats 4000000 in
theorem known_any (w : World) : Calls Try.prog 8 #[] w fun e w' => e = .returned (.bool true) ∧ Below w.heap.size w w' := by
  go_enter Try.func8, Try.ntmps8
  go_upto_region 2 with (fail)
  generalize hwa : World.alloc _ _ = wa
  have hE : EntsAt wa (some ⟨w.heap.size + 1 + 1 + 1, 0, none⟩) 2 2 [kX1 w.heap.size, kX2 w.heap.size] := by
    rw [← hwa, ← kL_lit]; exact known_ents w
  have hb : Below w.heap.size w wa := by
    rw [← hwa]
    exact ((((Below.refl _ _).alloc (Nat.le_refl _) _).alloc (by simp) _).alloc (by simp; omega) _).alloc (by simp; omega) _
  clear hwa
  obtain ⟨B, hB⟩ : ∃ B, w.heap.size = B := ⟨_, rfl⟩
  rw [hB] at hE ⊢
  have hpn : ∀ x ∈ [kX1 B, kX2 B], x.e.peers.length ≤ 17592186043904 := fun x hx => by
    rcases List.mem_cons.1 hx with rfl | hx
    · show [(2 : Int)].length ≤ _; decide
    · obtain rfl := List.mem_singleton.1 hx; show ([] : List Int).length ≤ _; decide
  have hrn : ∀ x ∈ [kX1 B, kX2 B], x.e.rn ≤ 140737488351232 := fun x hx => by
    rcases List.mem_cons.1 hx with rfl | hx
    · show 1 ≤ _; decide
    · obtain rfl := List.mem_singleton.1 hx; show 1 ≤ _; decide
  have c1 : Calls Try.prog 13 #[.slice (some ⟨B + 1 + 1 + 1, 0, none⟩) 2 2, .int .i64 2, .slice none 0 0] wa fun e w1 => GotOne wa w1 e 2 :=
    (gNext_any wa none 0 0 [] (keys_nil wa) (by omega) _ 2 2 _ hE (by omega) hpn hrn 2).mono (fun e w1 h => by
      have hh : (leftE 2 [] [kX1 B, kX2 B]).head? = some (kX2 B) := rfl
      rw [hh] at h; exact h)
  have c2 : ∀ W, Below wa.heap.size wa W → Calls Try.prog 13 #[.slice (some ⟨B + 1 + 1 + 1, 0, none⟩) 2 2, .int .i64 3, .slice none 0 0] W fun e w1 => GotOne W w1 e 1 := fun W hW =>
    (gNext_any W none 0 0 [] (keys_nil W) (by omega) _ 2 2 _ (hE.below hW) (by omega) hpn hrn 3).mono (fun e w1 h => by
      have hh : (leftE 3 [] [kX1 B, kX2 B]).head? = some (kX1 B) := rfl
      rw [hh] at h; exact h)
  have c3 : ∀ W A, Below wa.heap.size wa W → KeysAt W A 1 1 [oneKey 2] → Calls Try.prog 13 #[.slice (some ⟨B + 1 + 1 + 1, 0, none⟩) 2 2, .int .i64 2, .slice A 1 1] W fun e w1 => GotNone W w1 e := fun W A hW hA =>
    (gNext_any W A 1 1 [oneKey 2] hA (by omega) _ 2 2 _ (hE.below hW) (by omega) hpn hrn 2).mono (fun e w1 h => by
      have hh : (leftE 2 [oneKey 2] [kX1 B, kX2 B]).head? = none := by kernel_rfl
      rw [hh] at h
      obtain ⟨A, c, h1, h2, _⟩ := h
      exact ⟨A, c, h1, h2⟩)
  have c4 : ∀ W A, Below wa.heap.size wa W → KeysAt W A 2 2 [oneKey 7, oneKey 2] → Calls Try.prog 11 #[.slice A 2 2, .slice (some ⟨B + 1 + 1 + 1, 0, none⟩) 2 2] W fun e w1 => ∃ v, e = .returned v ∧ KeysOut W w1 v [oneKey 2] := fun W A hW hA =>
    (gprune_any W A 2 2 [oneKey 7, oneKey 2] hA (by omega) _ 2 2 _ (hE.below hW) (by omega)).mono (fun e w1 h => by
      have hh : pruneK [oneKey 7, oneKey 2] [kX1 B, kX2 B] = [oneKey 2] := by kernel_rfl
      rw [hh] at h; exact h)
  have C2 := Lib.hid c2
  have C3 := Lib.hid c3
  have C4 := Lib.hid c4
  have HB := Lib.hid hb
  have hzb := hb.size
  clear hE hpn hrn c2 c3 c4 hb
  go_wp2_with fail
  refine c1.mono ?_
  rintro e w1 ⟨A1, d1, rfl, hb1, hr1⟩
  have HB1 := Lib.hid hb1
  have HR1 := Lib.hid hr1
  clear c1 hb1 hr1
  go_wp2_with fail
  refine (C2.out w1 HB1.out).mono ?_
  rintro e w2 ⟨A2, d2, rfl, hb2, hr2⟩
  have hz1 := HB1.out.size
  have HB2 := Lib.hid (HB1.out.trans (hb2.mono hz1))
  have HR1' := Lib.hid ((HR1.out.below hb2).more hb2.size)
  have HR2 := Lib.hid hr2
  clear hb2 hr2 HR1
  go_wp2_with fail
  generalize hwb : World.alloc w2 _ = w3
  have hk3 : KeysAt w3 (some ⟨w2.heap.size, 0, none⟩) 1 1 [oneKey 2] := by
    rw [← hwb, ← k2_lit, ← keysOf_one]; exact keys_lit w2 [oneKey 2] (by decide)
  have hb3 : Below w2.heap.size w2 w3 := by rw [← hwb]; exact (Below.refl _ _).alloc (Nat.le_refl _) _
  have hz2 := HB2.out.size
  have HB3 := Lib.hid (HB2.out.trans (hb3.mono hz2))
  have HRa := Lib.hid ((HR1'.out.below hb3).more hb3.size)
  have HRb := Lib.hid ((HR2.out.below hb3).more hb3.size)
  clear hwb hb3 HR1' HR2
  refine (C3.out w3 _ HB3.out hk3).mono ?_
  rintro e w4 ⟨A4, d4, rfl, hb4⟩
  have hz3 := HB3.out.size
  have HB4 := Lib.hid (HB3.out.trans (hb4.mono hz3))
  have HRa4 := Lib.hid ((HRa.out.below hb4).more hb4.size)
  have HRb4 := Lib.hid ((HRb.out.below hb4).more hb4.size)
  clear hb4 hk3 HRa HRb
  go_wp2_with fail
  generalize hwb : World.alloc w4 _ = w5
  have hr5 : Reads w5 w5.heap.size 1 (some ⟨w4.heap.size, 0, none⟩) 1 (bytesOf 1 (fun _ => 2)) := by rw [← hwb]; exact one_u8 w4 2
  have hb5 : Below w4.heap.size w4 w5 := by rw [← hwb]; exact (Below.refl _ _).alloc (Nat.le_refl _) _
  have hz4 := HB4.out.size
  have HB5 := Lib.hid (HB4.out.trans (hb5.mono hz4))
  have HRa5 := Lib.hid ((HRa4.out.below hb5).more hb5.size)
  have HRb5 := Lib.hid ((HRb4.out.below hb5).more hb5.size)
  clear hwb hb5 HRa4 HRb4
  refine (same_reads w5 _ _ 1 _ _ _ _ _ HRa5.out hr5).mono ?_
  rintro e w6 ⟨rfl, rfl⟩
  clear hr5 HRa5
  go_wp2_with fail
  generalize hwb : World.alloc w5 _ = w6
  have hr6 : Reads w6 w6.heap.size 1 (some ⟨w5.heap.size, 0, none⟩) 1 (bytesOf 1 (fun _ => 1)) := by rw [← hwb]; exact one_u8 w5 1
  have hb6 : Below w5.heap.size w5 w6 := by rw [← hwb]; exact (Below.refl _ _).alloc (Nat.le_refl _) _
  have hz5 := HB5.out.size
  have HB6 := Lib.hid (HB5.out.trans (hb6.mono hz5))
  have HRb6 := Lib.hid ((HRb5.out.below hb6).more hb6.size)
  clear hwb hb6 HRb5
  refine (same_reads w6 _ _ 1 _ _ _ _ _ HRb6.out hr6).mono ?_
  rintro e w7 ⟨rfl, rfl⟩
  clear hr6 HRb6
  go_wp2_with fail
  generalize hwb : World.alloc w6 _ = w7
  have hk7 : KeysAt w7 (some ⟨w6.heap.size, 0, none⟩) 2 2 [oneKey 7, oneKey 2] := by
    rw [← hwb, ← k72_lit]; exact keys_lit w6 [oneKey 7, oneKey 2] (by decide)
  have hb7 : Below w6.heap.size w6 w7 := by rw [← hwb]; exact (Below.refl _ _).alloc (Nat.le_refl _) _
  have hz6 := HB6.out.size
  have HB7 := Lib.hid (HB6.out.trans (hb7.mono hz6))
  clear hwb hb7
  refine (C4.out w7 _ HB7.out hk7).mono ?_
  rintro e w8 ⟨v8, rfl, hb8, ho8⟩
  obtain ⟨A8, d8, rfl, hk8⟩ := ho8.form
  have hz7 := HB7.out.size
  have HB8 := Lib.hid (HB7.out.trans (hb8.mono hz7))
  have HK8 := Lib.hid hk8
  clear hb8 ho8 hk7 hk8
  go_wp2_with fail
  generalize hwb : World.alloc w8 _ = w9
  have hk9 : KeysAt w9 (some ⟨w8.heap.size, 0, none⟩) 1 1 [oneKey 2] := by
    rw [← hwb, ← k2_lit, ← keysOf_one]; exact keys_lit w8 [oneKey 2] (by decide)
  have hb9 : Below w8.heap.size w8 w9 := by rw [← hwb]; exact (Below.refl _ _).alloc (Nat.le_refl _) _
  have hz8 := HB8.out.size
  have HB9 := Lib.hid (HB8.out.trans (hb9.mono hz8))
  have hk8 := HK8.out.below hb9
  clear hwb hb9 HK8
  refine (sameKeys_any w9 _ _ 1 _ _ _ hk8 hk9 (by omega)).mono ?_
  rintro e w10 ⟨rfl, hb10⟩
  have hz9 := HB9.out.size
  have HB10 := Lib.hid (HB.out.trans ((HB9.out.trans (hb10.mono hz9)).mono hzb))
  clear hb10 hk8 hk9
  go_wp2_with fail
  go_ret
  subst hB
  exact ⟨rfl, HB10.out⟩
end Go.Proofs.Ytoamjdjmfhdaeaa
