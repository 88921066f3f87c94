/- The list of keys that KeyLists makes. -/
import Derived.Test.YtbhklhpeppaadaaKeyKc
namespace Go.Proofs.Ytbhklhpeppaadaa
open Go.RowKit
set_option linter.unusedVariables false
set_option linter.unusedSimpArgs false
open ShaW Sha

def zK : Ky := fun _ => 0
def oneK (p : Nat) (q : UInt8) : Ky := fun j => if j = p then q else 0
theorem oneK_set (p : Nat) (q : UInt8) : (fun j => if j = p then q else zK j) = oneK p q := rfl

/-- v is a new list of k keys -/
def NewKeys (w w' : World) (v : Value) (k : Nat) : Prop := ∃ A' c', ∃ ps : List Ky, v = .slice A' k c' ∧ ps.length = k ∧ Below w.heap.size w w' ∧ w'.ownsRow w.heap.size 25 32 (.slice A' k c') k (keysOf ps)
set_option maxRecDepth 100000 in
set_option maxHeartbeats 8000000 in
attribute [local go_sem ↓] wp_load_k in
theorem keys_any (w : World) (A : Option Addr) (n c b o : Nat) (f : Nat → UInt8) (hn : n ≤ 20) (hnc : n ≤ c) (hcm : c ≤ 9223372036854775807) (hA : 0 < n → A = some ⟨b, o, none⟩)
    (hc : ∀ j, j < n → w.cell? ⟨b, o + j, none⟩ = some (.int .u8 ((f j).toNat : Int))) :
    Calls Try.prog 16 #[.slice A n c] w fun e w' => ∃ v, e = .returned v ∧ NewKeys w w' v n := by
  obtain ⟨i0, hi0, hz0, hz1, hz2⟩ := info_parts key_info
  have HI0 := Lib.hid hi0
  have HZ0 := Lib.hid hz0
  have HA := Lib.hid hA
  have HC := Lib.hid hc
  clear hi0 hz0 hA hc
  go_enter Try.func16, Try.ntmps16
  go_wp2_with fail
  go_loopw [3, 9] (fun v i wr => ∃ k : Nat, k ≤ n ∧ i = .int .i64 (k : Int) ∧ NewKeys w wr v k) (fun _ i _ => n - (intOf i).toNat)
  case atStart => exact ⟨0, by omega, rfl, none, 0, [], rfl, rfl, Below.refl _ _, World.ownsRow_nil _ _ _ _⟩
  case round =>
    obtain ⟨k, hk, rfl, A', c', ps, rfl, hps, hbr, ho⟩ := hrel
    have HBR := Lib.hid hbr
    have HO := Lib.hid ho
    have HPS := Lib.hid hps
    have hzr := hbr.size
    clear hbr ho hps
    rcases Nat.lt_or_ge k n with hlt | hge
    · have hlt' : (k : Int) < n := by omega
      have hk0 : (0 : Int) ≤ k := by omega
      obtain rfl := HA.out (by omega)
      obtain ⟨x, hx⟩ : ∃ x, (f k).toNat = x := ⟨_, rfl⟩
      have hx256 : x < 256 := by rw [← hx]; exact (f k).toNat_lt
      have c1 := HC.out k hlt
      have d1 := (HBR.out.cell (p := ⟨b, o + k, none⟩) (World.block_lt_of_cell? w _ c1)).trans c1
      rw [hx] at d1
      clear c1
      go_upto_region 6 with (fail)
      generalize hwa : World.alloc wr _ = wa
      have hba : Below wr.heap.size wr wa := by rw [← hwa]; exact (Below.refl _ _).alloc (Nat.le_refl _) _
      have hka : Blk wa wr.heap.size 25 (bytesOf 32 zK).toArray := by rw [← hwa, show bytesOf 32 zK = bytesOf 32 (fun _ => 0) from rfl, ← zero_key]; exact Blk.new wr _ _
      have HBA := Lib.hid hba
      have HKA := Lib.hid hka
      obtain ⟨x3, hx3⟩ : ∃ y, x % 3 = y := ⟨_, rfl⟩
      obtain ⟨x5, hx5⟩ : ∃ y, x % 5 = y := ⟨_, rfl⟩
      have q3 : (x : Int) % 3 = (x3 : Int) := by omega
      have q5 : (x : Int) % 5 = (x5 : Int) := by omega
      have q33 : (x : Int).tmod 3 = (x3 : Int) := by rw [Int.tmod_eq_emod_of_nonneg (by omega)]; exact q3
      have q55 : (x : Int).tmod 5 = (x5 : Int) := by rw [Int.tmod_eq_emod_of_nonneg (by omega)]; exact q5
      have qw3 : IntKind.u8.wrap (x3 : Int) = (x3 : Int) := IntWalk.u8_in _ (by omega)
      have qw5 : IntKind.u8.wrap (x5 : Int) = (x5 : Int) := IntWalk.u8_in _ (by omega)
      obtain ⟨p, hp⟩ : ∃ p, x3 * 15 = p := ⟨_, rfl⟩
      have hp32 : p < 32 := by omega
      have qp : (x3 : Int) * 15 = (p : Int) := by omega
      have qwp : IntKind.u8.wrap (p : Int) = (p : Int) := IntWalk.u8_in _ (by omega)
      have hpi : (p : Int) < 32 := by omega
      have hp0 : (0 : Int) ≤ p := by omega
      obtain ⟨vo, c2⟩ : ∃ vo, wa.cell? ⟨wr.heap.size, p, none⟩ = some vo := ⟨_, blk_cells hka p hp32⟩
      have f2 := hka.frozen p
      have hx5' : x5 < 256 := by omega
      clear hwa hba hka hx3 hx5 hp
      go_upto_region 7 with (fail)
      generalize hwb : World.setCell _ _ _ = wb
      have hbw : Below wr.heap.size wr wb := by rw [← hwb]; exact HBA.out.setCell (Nat.le_refl _) _
      have hkb : Blk wb wr.heap.size 25 (bytesOf 32 (oneK p (UInt8.ofNat x5))).toArray := by
        have h := HKA.out.set_ p (.int .u8 ((UInt8.ofNat x5).toNat : Int))
        rw [bytesOf_set _ _ _ _ hp32, oneK_set, UInt8.toNat_ofNat', Nat.mod_eq_of_lt (by omega)] at h
        rw [← hwb]; exact h
      obtain ⟨kk, hkk⟩ : ∃ kk, oneK p (UInt8.ofNat x5) = kk := ⟨_, rfl⟩
      rw [hkk] at hkb
      have r1 := keyOk_mk (blk_key hkb)
      have r2 := loadK_eq (blk_key hkb)
      have HB2 := Lib.hid ((HBR.out.trans (hbw.mono hzr)).alloc (Nat.le_trans hzr hbw.size) (.cells (bytesOf 32 kk).toArray 25))
      have HO2 := Lib.hid (owns_below (owns_below HO.out hbw) ((Below.refl wb.heap.size wb).alloc (Nat.le_refl _) (.cells (bytesOf 32 kk).toArray 25)))
      have HKR := Lib.hid (key_reads wb kk)
      have hzw : w.heap.size ≤ wb.heap.size := Nat.le_trans hzr hbw.size
      clear hwb hbw hkb hkk c2 f2
      go_wp2_with (first
        | (refine wpList_buildSlice rfl 36 25 1 _ rfl (bytesOf 32 kk).toArray i0 _ Try.underlying36 HI0.out HZ0.out (by rw [hz1]; omega) (by rw [hz1]; omega) (by simp only [List.map_toArray, List.map_cons, List.map_nil]; exact key_fill kk i0 hz1) ?_)
        | (at_builtin
           refine wpList_append_any _ rfl (.tmp 19) (.tmp 21) _ rfl w.heap.size 25 i0 _ 32 32 Try.underlying36 HI0.out HZ0.out hz1 hz2 rfl (by omega) _ k _ rfl
             HO2.out _ _ 1 1 _ rfl HKR.out (keysOf_oneCell _) (by unfold maxLen; omega) (by omega) (by rw [World.size_alloc]; omega) ?_
           intro v3 w3 ho3 hg3 hat3
           rw [← keysOf_append] at ho3
           have hb3 : Below w.heap.size w w3 := HB2.out.grown hg3 (by rw [World.size_alloc]; omega) (fun g e => (HO2.out.lt g e).1)
           obtain ⟨A3, c3, rfl⟩ := own_form ho3
           have HO3 := Lib.hid ho3
           have HB3 := Lib.hid hb3
           clear ho3 hg3 hat3 hb3))
      go_roundw
      case rel => exact ⟨k + 1, by omega, by go_num, A3, c3, ps ++ [kk], rfl, by rw [List.length_append, HPS.out]; rfl, HB3.out, HO3.out⟩
      case measure => simp [intOf]; omega
    · obtain rfl : k = n := by omega
      have hge' : ¬ (k : Int) < k := by omega
      go_wp2_with fail
      go_ret
      exact ⟨_, rfl, A', c', ps, rfl, HPS.out, HBR.out, HO.out⟩
end Go.Proofs.Ytbhklhpeppaadaa
