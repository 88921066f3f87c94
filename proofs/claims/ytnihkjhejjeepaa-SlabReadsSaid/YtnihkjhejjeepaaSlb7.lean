/- The store of entries: Bytes, and the nil store. -/
import Derived.Test.YtnihkjhejjeepaaSlb6
namespace Go.Proofs.Ytnihkjhejjeepaa
open Go.RowKit
set_option linter.unusedVariables false
set_option linter.unusedSimpArgs false
open ShaW Sha

def sizeS (L : List SRow) : Nat := (L.map fun r => r.s.e.rn).sum
theorem sizeS_take {L : List SRow} {k : Nat} {r : SRow} (h : L[k]? = some r) : sizeS (L.take (k + 1)) = sizeS (L.take k) + r.s.e.rn := by
  unfold sizeS
  rw [List.take_add_one, h]
  simp
theorem sizeS_le {L : List SRow} (h : ∀ r ∈ L, r.s.e.rn ≤ 1048576) : sizeS L ≤ L.length * 1048576 := by
  induction L with
  | nil => simp [sizeS]
  | cons a L ih =>
    have h1 := ih (fun r hr => h r (List.mem_cons_of_mem _ hr))
    have h2 := h a (List.mem_cons_self)
    have e : sizeS (a :: L) = a.s.e.rn + sizeS L := by simp [sizeS]
    rw [e, List.length_cons]
    omega
set_option maxRecDepth 100000 in
set_option maxHeartbeats 4000000 in
attribute [local go_sem ↓] wp_load_slot wp_store_slot in
theorem sbytes_any (w : World) (B C most : Nat) (L : List SRow) (sv : Value) (size : Nat) (free : Int) (h : SlAt w B C most L sv size free) (hl : L.length ≤ 1048576) (hrn : ∀ r ∈ L, r.s.e.rn ≤ 1048576) :
    Calls Try.prog 21 #[.pointer (some ⟨C, 0, none⟩)] w fun e w' => e = .returned (.int .i64 (sizeS L : Int)) ∧ Below w.heap.size w w' := by
  have HS := Lib.hid h
  obtain ⟨A, c, rfl⟩ := own_form h.row
  obtain ⟨n, hn⟩ : ∃ n, L.length = n := ⟨_, rfl⟩
  have x2 : w.cell? ⟨C, 2, none⟩ = some (.slice A n c) := by rw [← hn]; exact h.blk.cell 2
  rw [hn] at hl
  have HN := Lib.hid hn
  have HRN := Lib.hid hrn
  clear h hn hrn
  go_enter Try.func21, Try.ntmps21
  go_wp2_with fail
  go_loopw [3, 13] (fun s i wr => ∃ k : Nat, k ≤ n ∧ i = .int .i64 (k : Int) ∧ s = .int .i64 (sizeS (L.take k) : Int) ∧ Below w.heap.size w wr) (fun _ i _ => n - (intOf i).toNat)
  case atStart => exact ⟨0, by omega, rfl, rfl, Below.refl _ _⟩
  case round =>
    obtain ⟨k, hk, rfl, rfl, hbr⟩ := hrel
    have HBR := Lib.hid hbr
    clear hbr x2
    rcases Nat.lt_or_ge k n with hlt | hge
    · have t1 : (k : Int) < n := by omega
      obtain ⟨r, hr⟩ : ∃ r, L[k]? = some r := ⟨L[k]'(by have := HN.out; omega), List.getElem?_eq_getElem _⟩
      have hS := HS.out.below HBR.out
      obtain ⟨g, c', hv, _, _, _, hrg, _⟩ := hS.at_ hr
      injection hv with h1 _ _
      subst h1
      have hen := hS.ent r (List.mem_of_getElem? hr)
      have hle := sizeS_take hr
      obtain ⟨q, hq⟩ : ∃ q, sizeS (L.take k) = q := ⟨_, rfl⟩
      rw [hq] at hle
      have hq2 : q ≤ k * 1048576 := by
        rw [← hq]
        have h2 := sizeS_le (L := L.take k) (fun r hr => HRN.out r (List.mem_of_mem_take hr))
        have h3 : (L.take k).length ≤ k := List.length_take_le _ _
        exact Nat.le_trans h2 (Nat.mul_le_mul_right 1048576 h3)
      have hr2 := HRN.out r (List.mem_of_getElem? hr)
      obtain ⟨Ar, cr, hrv⟩ := own_form hen.raw
      have HR1 := Lib.hid (SRow.one hen)
      obtain ⟨cs, hcs⟩ : ∃ cs, r.cells = cs := ⟨_, rfl⟩
      have h32 := cells_raw r
      rw [hcs] at hrg h32
      rw [hrv] at h32
      have hcl : cs.length = 44 := by rw [← hcs]; exact SRow.len r
      obtain ⟨m, hm⟩ : ∃ m, r.s.e.rn = m := ⟨_, rfl⟩
      rw [hm] at h32 hle hr2
      have qa : AggOk 44 wr (.pointer (some ⟨g, k * 44, none⟩)) := aggOk_mk hrg hcl
      have ld := loadN_eq hrg hcl
      have g1 : IntKind.i64.wrap ((q : Int) + (m : Int)) = (q : Int) + (m : Int) := IntWalk.i64_in _ (by omega)
      have g2 : IntKind.i64.wrap ((k : Int) + 1) = (k : Int) + 1 := IntWalk.i64_in _ (by omega)
      have HLE := Lib.hid hle
      have HQ := Lib.hid hq
      have HCL := Lib.hid hcl
      have HC1 : Hid (∀ u ∈ cs, u.oneCell' = true) := Lib.hid (by rw [← hcs]; exact HR1.out)
      have H32 := Lib.hid h32
      clear hle hrv hcs hrg h32 hr2 hen hm hr HR1 hcl hS
      rw [hq]
      clear hq
      have qs : StoOk 44 (wr.alloc (.cells #[Value.int .u8 0, Value.int .u8 0, Value.int .u8 0, Value.int .u8 0, Value.int .u8 0, Value.int .u8 0, Value.int .u8 0, Value.int .u8 0, Value.int .u8 0, Value.int .u8 0, Value.int .u8 0, Value.int .u8 0, Value.int .u8 0, Value.int .u8 0, Value.int .u8 0, Value.int .u8 0, Value.int .u8 0, Value.int .u8 0, Value.int .u8 0, Value.int .u8 0, Value.int .u8 0, Value.int .u8 0, Value.int .u8 0, Value.int .u8 0, Value.int .u8 0, Value.int .u8 0, Value.int .u8 0, Value.int .u8 0, Value.int .u8 0, Value.int .u8 0, Value.int .u8 0, Value.int .u8 0, .slice none 0 0, .string { data := #[] }, .int .u64 0, .int .u64 0, .int .u64 0, .int .i64 0, .int .i64 0, .int .i64 0, .slice none 0 0, .int .i64 0, .bool false, .int .i64 0] 75)) (.pointer (some ⟨wr.heap.size, 0, none⟩)) (.agg cs.toArray) := ⟨_, 0, _, rfl, rfl, HCL.out, blk_there (heap_alloc_new _ _) (Nat.le_refl 44), HC1.out⟩
      go_upto_region 7 with (fail)
      generalize hw3 : storeMid _ _ _ = w3
      have he3 : w3 = (wr.alloc (.cells #[Value.int .u8 0, Value.int .u8 0, Value.int .u8 0, Value.int .u8 0, Value.int .u8 0, Value.int .u8 0, Value.int .u8 0, Value.int .u8 0, Value.int .u8 0, Value.int .u8 0, Value.int .u8 0, Value.int .u8 0, Value.int .u8 0, Value.int .u8 0, Value.int .u8 0, Value.int .u8 0, Value.int .u8 0, Value.int .u8 0, Value.int .u8 0, Value.int .u8 0, Value.int .u8 0, Value.int .u8 0, Value.int .u8 0, Value.int .u8 0, Value.int .u8 0, Value.int .u8 0, Value.int .u8 0, Value.int .u8 0, Value.int .u8 0, Value.int .u8 0, Value.int .u8 0, Value.int .u8 0, .slice none 0 0, .string { data := #[] }, .int .u64 0, .int .u64 0, .int .u64 0, .int .i64 0, .int .i64 0, .int .i64 0, .slice none 0 0, .int .i64 0, .bool false, .int .i64 0] 75)).setCells wr.heap.size 0 cs := by rw [← hw3]; exact storeMid_eq _ _ _ _
      have hk3 : Blk w3 wr.heap.size 75 cs.toArray := by rw [he3]; exact setCells_whole (heap_alloc_new _ _) (by rw [HCL.out]; rfl)
      have hb3 : Below wr.heap.size wr w3 := by rw [he3]; exact Only.below_trans ((Below.refl _ _).alloc (Nat.le_refl _) _) (setCells_only (fun k => k = wr.heap.size) _ wr.heap.size 0 cs (.inl rfl)) (by simp) (fun k hk => Nat.le_of_eq hk.symm)
      have y32 : w3.cell? ⟨wr.heap.size, 32, none⟩ = some (.slice Ar m cr) := by rw [hk3.cell]; exact List.getElem?_toArray.trans H32.out
      have HB3 := Lib.hid hb3
      clear hw3 he3 hk3 hb3 qa ld qs
      go_wp2_with fail
      go_roundw
      case rel => exact ⟨k + 1, by omega, by go_num, by rw [HLE.out]; go_num, HBR.out.trans (HB3.out.mono HBR.out.size)⟩
      case measure => simp [intOf]; omega
    · obtain rfl : k = n := by omega
      have t1 : ¬ (k : Int) < k := by omega
      go_wp2_with fail
      go_ret
      refine ⟨?_, HBR.out⟩
      rw [List.take_of_length_le (by have := HN.out; omega)]
      rfl
theorem snil_len (w : World) : Calls Try.prog 19 #[.pointer none] w fun e w' => e = .returned (.int .i64 0) ∧ w = w' := by
  go_enter Try.func19, Try.ntmps19
  go_wp2_with fail
  go_ret
  exact ⟨rfl, rfl⟩
theorem snil_bytes (w : World) : Calls Try.prog 21 #[.pointer none] w fun e w' => e = .returned (.int .i64 0) ∧ w = w' := by
  go_enter Try.func21, Try.ntmps21
  go_wp2_with fail
  go_ret
  exact ⟨rfl, rfl⟩
theorem snil_handles (w : World) : Calls Try.prog 23 #[.pointer none] w fun e w' => e = .returned (.slice none 0 0) ∧ w = w' := by
  go_enter Try.func23, Try.ntmps23
  go_wp2_with fail
  go_ret
  exact ⟨rfl, rfl⟩
set_option maxRecDepth 100000 in
set_option maxHeartbeats 4000000 in
theorem snil_has (w : World) (s u : Int) : Calls Try.prog 33 #[.pointer none, hdl s u] w fun e w' => e = .returned (.bool false) ∧ Below w.heap.size w w' := by
  go_enter Try.func33, Try.ntmps33
  go_upto_region 1 with (fail)
  generalize hwa : World.alloc w _ = wa
  have hb0 : Below w.heap.size w wa := by rw [← hwa]; exact (Below.refl _ _).alloc (Nat.le_refl _) _
  have hk : Blk wa w.heap.size 43 #[.int .i64 s, .int .i64 u] := by rw [← hwa]; exact Blk.new _ _ _
  have k0 := hk.cell 0
  have k1 := hk.cell 1
  simp at k0 k1
  have HB0 := Lib.hid hb0
  clear hwa hb0 hk
  go_quiet (fail)
  go_wp2_with fail
  go_ret
  exact ⟨rfl, below_drewN HB0.out _⟩
end Go.Proofs.Ytnihkjhejjeepaa
