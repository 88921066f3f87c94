/- The store of entries: the fixed example. -/
import Derived.Test.YtnihkjhejjeepaaSlbP
import Derived.Lib.SlBytesConst
namespace Go.Proofs.Ytnihkjhejjeepaa
open Go.RowKit
set_option linter.unusedVariables false
set_option linter.unusedSimpArgs false
open ShaW Sha

def entOf (n : Nat) (f : Nat → UInt8) (o : Int) : Ent := ⟨fun _ => 0, n, f, ByteArray.empty, 0, 0, 0, 0, 0, o, []⟩
def litOf (rv : Value) (o : Int) : Array Value := #[Value.int .u8 0, Value.int .u8 0, Value.int .u8 0, Value.int .u8 0, Value.int .u8 0, Value.int .u8 0, Value.int .u8 0, Value.int .u8 0, Value.int .u8 0, Value.int .u8 0, Value.int .u8 0, Value.int .u8 0, Value.int .u8 0, Value.int .u8 0, Value.int .u8 0, Value.int .u8 0, Value.int .u8 0, Value.int .u8 0, Value.int .u8 0, Value.int .u8 0, Value.int .u8 0, Value.int .u8 0, Value.int .u8 0, Value.int .u8 0, Value.int .u8 0, Value.int .u8 0, Value.int .u8 0, Value.int .u8 0, Value.int .u8 0, Value.int .u8 0, Value.int .u8 0, Value.int .u8 0, rv, .string { data := #[] }, .int .u64 0, .int .u64 0, .int .u64 0, .int .i64 0, .int .i64 0, .int .i64 o, .slice none 0 0]
theorem litOf_eq (n : Nat) (f : Nat → UInt8) (rv : Value) (o : Int) : entV (entOf n f o) rv (.slice none 0 0) = .agg (litOf rv o) := by kernel_rfl
def abF (j : Nat) : UInt8 := if j = 0 then 97 else 98
def kM0 : RSt := ⟨2, [], []⟩
def kM1 : RSt := kM0.add (entOf 2 abF 1)
def kM2 : RSt := kM1.rem 0
def kM3 : RSt := kM2.add (entOf 0 abF 2)
theorem kW0 : WfR kM0 0 := wf0 2 0
theorem kW1 : WfR kM1 1 := kW0.add rfl ⟨by decide, by decide⟩
theorem kP1 : kM1.pl[0]? = some ⟨true, 1, entOf 2 abF 1⟩ := rfl
theorem kW2 : WfR kM2 1 := kW1.rem kP1 rfl
theorem kW3 : WfR kM3 2 := kW2.add rfl ⟨by decide, by decide⟩
theorem kP3 : kM3.pl[0]? = some ⟨true, 2, entOf 0 abF 2⟩ := rfl
theorem blk_mark_rd {w : World} {g : Nat} {mk : Nat × Nat} (h : w.heap[g]? = some (.cells #[.int .u8 97, .int .u8 98] 5 mk)) : RdT w 5 (.slice (some ⟨g, 0, none⟩) 2 2) 2 (bytesOf 2 abF) := by
  have hlt : g < w.heap.size := by
    rcases Nat.lt_or_ge g w.heap.size with h' | h'
    · exact h'
    · rw [Array.getElem?_eq_none h'] at h; cases h
  refine ⟨_, _, rfl, ⟨rfl, fun _ => ⟨⟨g, 0, none⟩, rfl, hlt, fun j u hu => ?_⟩⟩, fun _ => ⟨g, 0, _, _, rfl, h⟩⟩
  rw [add_flat, Nat.zero_add]
  unfold World.cell?
  show (match w.heap[g]? with | some (.cells vs _ _) => vs[j]? | _ => none) = _
  rw [h]
  match j, hu with
  | 0, hu => exact hu
  | 1, hu => exact hu
theorem box_sto (W : World) (e : Ent) (rv pv : Value) (h1 : ∀ u ∈ entCells e rv pv, u.oneCell' = true) : StoOk 41 (W.alloc (.cells #[Value.int .u8 0, Value.int .u8 0, Value.int .u8 0, Value.int .u8 0, Value.int .u8 0, Value.int .u8 0, Value.int .u8 0, Value.int .u8 0, Value.int .u8 0, Value.int .u8 0, Value.int .u8 0, Value.int .u8 0, Value.int .u8 0, Value.int .u8 0, Value.int .u8 0, Value.int .u8 0, Value.int .u8 0, Value.int .u8 0, Value.int .u8 0, Value.int .u8 0, Value.int .u8 0, Value.int .u8 0, Value.int .u8 0, Value.int .u8 0, Value.int .u8 0, Value.int .u8 0, Value.int .u8 0, Value.int .u8 0, Value.int .u8 0, Value.int .u8 0, Value.int .u8 0, Value.int .u8 0, .slice none 0 0, .string { data := #[] }, .int .u64 0, .int .u64 0, .int .u64 0, .int .i64 0, .int .i64 0, .int .i64 0, .slice none 0 0] 38)) (.pointer (some ⟨W.heap.size, 0, none⟩)) (.agg (entCells e rv pv).toArray) :=
  ⟨_, 0, _, rfl, rfl, entCells_len _ _ _, blk_there (heap_alloc_new _ _) (Nat.le_refl 41), h1⟩
theorem box_end {W W' : World} {e : Ent} {rv pv : Value} (h : storeMid (W.alloc (.cells #[Value.int .u8 0, Value.int .u8 0, Value.int .u8 0, Value.int .u8 0, Value.int .u8 0, Value.int .u8 0, Value.int .u8 0, Value.int .u8 0, Value.int .u8 0, Value.int .u8 0, Value.int .u8 0, Value.int .u8 0, Value.int .u8 0, Value.int .u8 0, Value.int .u8 0, Value.int .u8 0, Value.int .u8 0, Value.int .u8 0, Value.int .u8 0, Value.int .u8 0, Value.int .u8 0, Value.int .u8 0, Value.int .u8 0, Value.int .u8 0, Value.int .u8 0, Value.int .u8 0, Value.int .u8 0, Value.int .u8 0, Value.int .u8 0, Value.int .u8 0, Value.int .u8 0, Value.int .u8 0, .slice none 0 0, .string { data := #[] }, .int .u64 0, .int .u64 0, .int .u64 0, .int .i64 0, .int .i64 0, .int .i64 0, .slice none 0 0] 38)) (.pointer (some ⟨W.heap.size, 0, none⟩)) (.agg (entCells e rv pv).toArray) = W') :
    Below W.heap.size W W' ∧ Blk W' W.heap.size 38 (entCells e rv pv).toArray := by
  rw [storeMid_eq] at h
  rw [← h]
  exact ⟨Only.below_trans ((Below.refl _ _).alloc (Nat.le_refl _) _) (setCells_only (fun k => k = W.heap.size) _ W.heap.size 0 _ (.inl rfl)) (by simp) (fun k hk => Nat.le_of_eq hk.symm), setCells_whole (heap_alloc_new _ _) (by rw [entCells_len]; rfl)⟩
theorem ent_ord {w : World} {g : Nat} {e : Ent} {rv pv : Value} (h : Blk w g 38 (entCells e rv pv).toArray) : w.cell? ⟨g, 39, none⟩ = some (.int .i64 e.ord) := by
  rw [h.cell]; exact List.getElem?_toArray.trans (entCells_get e _ _ 7)
set_option maxRecDepth 100000 in
set_option maxHeartbeats 4000000 in
attribute [local go_sem ↓] wp_store_ent in
theorem known_any (w : World) : Calls Try.prog 9 #[] w fun e w' => e = .returned (.bool true) ∧ Below w.heap.size w w' := by
  have kc := fun (w : World) (C : Array Value) (n c : Nat) => Lib.run_convert_bytes_const (P := Try.prog) w 35 5 C n c Try.underlying35 Try.underlying5
  obtain ⟨B, hB⟩ : ∃ B, w.heap.size = B := ⟨_, rfl⟩
  go_enter Try.func9, Try.ntmps9
  go_wp2_with fail
  refine (rnew_any w w.heap.size (Nat.le_refl _) 2 (by omega)).mono ?_
  rintro e w1 ⟨rfl, hb1, hs1, hr1⟩
  have hr1 : SlR w1 w.heap.size w.heap.size kM0 := hr1
  rw [hB] at hb1 hr1 ⊢
  have hz1 := hb1.size
  have HB1 := Lib.hid hb1
  have HR1 := Lib.hid hr1
  clear hb1 hr1 hs1
  go_wp2_with fail
  generalize hwa : World.alloc w1 _ = wa
  have hba : Below w1.heap.size w1 wa := by rw [← hwa]; exact (Below.refl _ _).alloc (Nat.le_refl _) _
  have hra : EntRd wa (entOf 2 abF 1) (.slice (some ⟨w1.heap.size, 0, none⟩) 2 2) (.slice none 0 0) := by
    refine ⟨?_, RdT.nil _ _⟩
    refine blk_mark_rd (mk := (2, 3)) ?_
    rw [← hwa]
    exact heap_alloc_new _ _
  have hBa : B ≤ wa.heap.size := by have := hba.size; omega
  have h1 : Calls _ _ _ _ fun ed w' => ed = .returned (.tuple #[.agg #[.int .i64 0, .int .i64 0], .bool true]) ∧ Only (SFoot wa B) wa w' ∧ SlR w' B B kM1 :=
    radd_ok wa B B kM0 0 (HR1.out.below hba) hBa kW0 (by omega) _ _ _ hra ⟨by decide, by decide⟩ rfl
  rw [litOf_eq] at h1
  have HBa := Lib.hid (HB1.out.trans (hba.mono (by omega)))
  refine h1.mono ?_
  rintro e w2 ⟨rfl, ho2, hs2⟩
  have HB2 := Lib.hid (Only.below_trans HBa.out ho2 hBa SFoot.ge)
  have hz2 := HB2.out.size
  have HS2 := Lib.hid hs2
  clear kc hra h1 ho2 hs2 hwa hba
  go_wp2_with fail
  generalize hwa : World.alloc w2 _ = w3
  have hk3 : Blk w3 w2.heap.size 43 #[.int .i64 0, .int .i64 0] := by rw [← hwa]; exact heap_alloc_new _ _
  have hba : Below w2.heap.size w2 w3 := by rw [← hwa]; exact (Below.refl _ _).alloc (Nat.le_refl _) _
  have HB3 := Lib.hid (HB2.out.trans (hba.mono (by omega)))
  have hB3 : B ≤ w3.heap.size := by have := hba.size; omega
  refine (rrem_ok w3 B B kM1 1 (HS2.out.below hba) hB3 kW1 (by omega) 0 0 _ kP1 rfl rfl).mono ?_
  rintro e w4 ⟨rfl, ho4, hs4⟩
  have hs4 : SlR w4 B B kM2 := hs4
  have HB4 := Lib.hid (Only.below_trans HB3.out ho4 hB3 SFoot.ge)
  have hz4 := HB4.out.size
  have HS4 := Lib.hid hs4
  have HK4 := Lib.hid (hk3.only ho4 (SFoot.not hk3 (by decide)))
  have hl2 := HK4.out.lt
  clear hs4 hwa hba hk3 ho4
  go_wp2_with fail
  have h1 : Calls _ _ _ _ fun ed w' => ed = .returned (.tuple #[.agg #[.int .i64 0, .int .i64 1], .bool true]) ∧ Only (SFoot w4 B) w4 w' ∧ SlR w' B B kM3 :=
    radd_ok w4 B B kM2 1 HS4.out (by omega) kW2 (by omega) (entOf 0 abF 2) (.slice none 0 0) (.slice none 0 0) ⟨RdT.nil _ _, RdT.nil _ _⟩ ⟨by decide, by decide⟩ rfl
  rw [litOf_eq] at h1
  refine h1.mono ?_
  rintro e w5 ⟨rfl, ho5, hs5⟩
  have HB5 := Lib.hid (Only.below_trans HB4.out ho5 (by omega) SFoot.ge)
  have HS5 := Lib.hid hs5
  have HK5 := Lib.hid (HK4.out.only ho5 (SFoot.not HK4.out (by decide)))
  have k0 : w5.cell? ⟨w2.heap.size, 0, none⟩ = some (.int .i64 0) := HK5.out.cell 0
  have k1 : w5.cell? ⟨w2.heap.size, 1, none⟩ = some (.int .i64 0) := HK5.out.cell 1
  have hl5 := HK5.out.lt
  clear h1 ho5 hs5
  go_wp2_with fail
  generalize hwa : World.alloc w5 _ = w6
  have hk6 : Blk w6 w5.heap.size 43 #[.int .i64 0, .int .i64 1] := by rw [← hwa]; exact heap_alloc_new _ _
  have hba : Below w5.heap.size w5 w6 := by rw [← hwa]; exact (Below.refl _ _).alloc (Nat.le_refl _) _
  have HB6 := Lib.hid (HB5.out.trans (hba.mono (by have := HB5.out.size; omega)))
  have hS6 := HS5.out.below hba
  have hK6 := HK5.out.below hba hl5
  refine (rget_no w6 B B kM3 2 hS6 kW3 (by omega) 0 0 rfl).mono ?_
  rintro e w7 ⟨rfl, hb7⟩
  have HB7 := Lib.hid (HB6.out.trans (hb7.mono (by have := HB6.out.size; omega)))
  have HS7 := Lib.hid (hS6.below hb7)
  have HK7 := Lib.hid (hK6.below hb7 hK6.lt)
  have HH7 := Lib.hid (hk6.below hb7 hk6.lt)
  have qs := box_sto w7 ent0 (.slice none 0 0) (.slice none 0 0) (entCells_one rfl rfl)
  clear hwa hba hk6 hS6 hK6 hb7 k0 k1
  go_upto_region 8 with (fail)
  generalize hwa : storeMid _ _ _ = w8
  have hbx := box_end hwa
  have HB8 := Lib.hid (HB7.out.trans (hbx.1.mono (by have := HB7.out.size; omega)))
  have HS8 := Lib.hid (HS7.out.below hbx.1)
  have HK8 := Lib.hid (HK7.out.below hbx.1 HK7.out.lt)
  have HH8 := Lib.hid (HH7.out.below hbx.1 HH7.out.lt)
  have k0 : w8.cell? ⟨w5.heap.size, 0, none⟩ = some (.int .i64 0) := HH8.out.cell 0
  have k1 : w8.cell? ⟨w5.heap.size, 1, none⟩ = some (.int .i64 1) := HH8.out.cell 1
  clear qs hwa hbx
  go_wp2_with fail
  have h1 : Calls _ _ _ _ _ := rget_ok w8 B B kM3 2 HS8.out kW3 (by omega) 0 1 _ kP3 rfl rfl
  refine h1.mono ?_
  rintro e w9 ⟨rv, pv, rfl, hb9, he9⟩
  have HB9 := Lib.hid (HB8.out.trans (hb9.mono (by have := HB8.out.size; omega)))
  have HS9 := Lib.hid (HS8.out.below hb9)
  have HK9 := Lib.hid (HK8.out.below hb9 HK8.out.lt)
  have HH9 := Lib.hid (HH8.out.below hb9 HH8.out.lt)
  have qs := box_sto w9 _ rv pv he9.one
  clear h1 hb9 he9 k0 k1
  go_upto_region 9 with (fail)
  generalize hwa : storeMid _ _ _ = w10
  have hbx := box_end hwa
  have HB10 := Lib.hid (HB9.out.trans (hbx.1.mono (by have := HB9.out.size; omega)))
  have HS10 := Lib.hid (HS9.out.below hbx.1)
  have HK10 := HK9.out.below hbx.1 HK9.out.lt
  have HH10 := HH9.out.below hbx.1 HH9.out.lt
  have k0 : w10.cell? ⟨w5.heap.size, 0, none⟩ = some (.int .i64 0) := HH10.cell 0
  have k1 : w10.cell? ⟨w5.heap.size, 1, none⟩ = some (.int .i64 1) := HH10.cell 1
  have k2 : w10.cell? ⟨w2.heap.size, 0, none⟩ = some (.int .i64 0) := HK10.cell 0
  have k3 : w10.cell? ⟨w2.heap.size, 1, none⟩ = some (.int .i64 0) := HK10.cell 1
  have k4 : w10.cell? ⟨w9.heap.size, 39, none⟩ = some (.int .i64 2) := ent_ord hbx.2
  clear qs hwa hbx HK10 HH10
  go_wp2_with fail
  have h1 : Calls Try.prog 19 _ _ fun e w' => e = .returned (.int .i64 1) ∧ w10 = w' := rlen_any w10 B B kM3 HS10.out
  refine h1.mono ?_
  rintro e w11 ⟨rfl, rfl⟩
  clear h1
  go_wp2_with fail
  have h1 : Calls Try.prog 21 _ _ fun e w' => e = .returned (.int .i64 0) ∧ Below w10.heap.size w10 w' := rbytes_any w10 B B kM3 2 HS10.out kW3 (by omega)
  refine h1.mono ?_
  rintro e w12 ⟨rfl, hb12⟩
  have HB12 := Lib.hid (HB10.out.trans (hb12.mono (by have := HB10.out.size; omega)))
  clear h1 hb12
  go_wp2_with fail
  go_ret
  refine ⟨rfl, ?_⟩
  rw [hB]; exact HB12.out
end Go.Proofs.Ytnihkjhejjeepaa
