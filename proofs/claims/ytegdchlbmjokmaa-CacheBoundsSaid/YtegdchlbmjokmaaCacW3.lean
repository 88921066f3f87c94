/- The cache: a key is stored at an index. -/
import Derived.Test.YtegdchlbmjokmaaCacW2
import Derived.Outline
import Derived.Test.YtegdchlbmjokmaaMid
namespace Go.Proofs.Ytegdchlbmjokmaa
open Go.RowKit
set_option linter.unusedVariables false
open Lnk

/-- a key may be stored there -/
def KeyMid (W : World) (p v : Value) : Prop := ∃ b o, ∃ k : Ky, p = .pointer (some ⟨b, o, none⟩) ∧ v = keyV k ∧ W.there b o 32
theorem wp_store_kmid (x y : Operand) (ty : TypeId) (pos : String) (after : Array Edge) (guard : Option (Nat × Bool)) (a : Act) (W : World) (K : Act → World → Prop) (Q : Exit → Act → World → Prop) (h : KeyMid W (a.eval x) (a.eval y)) :
    Oper.wp Try.prog { dst := none, op := .store 30 x y, type := ty, pos := pos, after := after, guard := guard } a W K Q = K a (storeMid W (a.eval x) (a.eval y)) := by
  obtain ⟨b, o, k, hx, hy, ht⟩ := h
  have e : storeMid W (a.eval x) (a.eval y) = W.setCells b o (bytesOf 32 k).toArray.toList := by rw [hx, hy]; rfl
  rw [e]
  have hrun := run_storeVar_mid (P := Try.prog) W b o 30 (bytesOf 32 k).toArray (by rw [keyV_size]; exact ht) (by rw [keyV_size]; kernel_rfl) (keyV_one k)
  unfold Oper.wp execOp
  simp only [hx, hy, Instr.storeAt, Instr.sureAddr, Sem.run_bind, Sem.run_pure, Result.andThen_ok, hrun]
  rfl
theorem keysOf_drop (K : List Ky) : ∀ i, (keysOf K).drop (i * 32) = keysOf (K.drop i) := by
  induction K with
  | nil => intro i; simp [keysOf]
  | cons k K ih =>
    intro i
    cases i with
    | zero => simp
    | succ i =>
      show (bytesOf 32 k ++ keysOf K).drop _ = _
      rw [List.drop_append, bytesOf_length, List.drop_of_length_le (by rw [bytesOf_length]; omega), List.nil_append, show (i + 1) * 32 - 32 = i * 32 by omega, ih]
      rfl
theorem keysOf_takeN (K : List Ky) : ∀ i, (keysOf K).take (i * 32) = keysOf (K.take i) := by
  induction K with
  | nil => intro i; simp [keysOf]
  | cons k K ih =>
    intro i
    cases i with
    | zero => simp [keysOf]
    | succ i =>
      show (bytesOf 32 k ++ keysOf K).take _ = _
      rw [List.take_append, bytesOf_length, List.take_of_length_le (by rw [bytesOf_length]; omega), show (i + 1) * 32 - 32 = i * 32 by omega, ih]
      rfl
theorem keysOf_set (K : List Ky) (i : Nat) (hi : i < K.length) (k : Ky) : keysOf (K.set i k) = (keysOf K).take (i * 32) ++ bytesOf 32 k ++ (keysOf K).drop (i * 32 + 32) := by
  rw [keysOf_takeN, show i * 32 + 32 = (i + 1) * 32 by omega, keysOf_drop, List.set_eq_take_append_cons_drop, if_pos hi, keysOf_append, List.append_assoc]
  rfl
theorem freesOf_take (F : List Nat) (i : Nat) : freesOf (F ++ [i]) = freesOf F ++ [.int .i64 (i : Int)] := by unfold freesOf; rw [List.map_append]; rfl
theorem freesOf_len (F : List Nat) : (freesOf F).length = F.length := by simp [freesOf]

/-- what place leaves: the index, the keys and the free indexes -/
def PlacePost (w : World) (B C : Nat) (c0 c1 c4 kv fv : Value) (i : Nat) (K : List Ky) (F : List Nat) (e : Ending) (w' : World) : Prop :=
  e = .returned (.int .i64 (i : Int)) ∧ Only (fun g => g = C ∨ kv.ownBlock = some g) w w' ∧ ∃ kv' fv', (kv'.ownBlock = kv.ownBlock ∨ ∀ g, kv'.ownBlock = some g → w.heap.size ≤ g) ∧ fv'.ownBlock = fv.ownBlock ∧
      Blk w' C 55 #[c0, c1, kv', fv', c4] ∧ w'.ownsRow B 30 32 kv' K.length (keysOf K) ∧ w'.ownsRow B 3 1 fv' F.length (freesOf F)
theorem place_end {w wa : World} {B C gk gf ck cf i : Nat} {c0 c1 c4 fv : Value} {K : List Ky} {F : List Nat} {k : Ky} (hf : fv.ownBlock = some gf) (ho : Only (fun g => g = C) w wa)
    (hba : Blk wa C 55 #[c0, c1, .slice (some ⟨gk, 0, none⟩) K.length ck, .slice (some ⟨gf, 0, none⟩) F.length cf, c4])
    (hksa : wa.ownsRow B 30 32 (.slice (some ⟨gk, 0, none⟩) K.length ck) K.length (keysOf K)) (hfra : wa.ownsRow B 3 1 (.slice (some ⟨gf, 0, none⟩) F.length cf) F.length (freesOf F)) (hi : i < K.length) :
    PlacePost w B C c0 c1 c4 (.slice (some ⟨gk, 0, none⟩) K.length ck) fv i (K.set i k) F (.returned (.int .i64 (i : Int))) (storeMid wa (.pointer (some ⟨gk, i * 32, none⟩)) (.agg (bytesOf 32 k).toArray)) := by
  have e : storeMid wa (.pointer (some ⟨gk, i * 32, none⟩)) (.agg (bytesOf 32 k).toArray) = wa.setCells gk (i * 32) (bytesOf 32 k) := by show wa.setCells gk (i * 32) (bytesOf 32 k).toArray.toList = _; rw [List.toList_toArray]
  rw [e]
  have h1 := setCells_only (fun g => g = gk) wa gk (i * 32) (bytesOf 32 k) (.inl rfl)
  have h5 := owns_set hksa i hi (bytesOf 32 k) (bytesOf_length _ _)
  rw [← keysOf_set _ _ hi] at h5
  have hl : (K.set i k).length = K.length := List.length_set ..
  rw [← hl] at h5
  exact ⟨rfl, (ho.mono (fun _ h => .inl h)).trans h1 (fun j hj => .inl (.inr (by rw [hj]; rfl))), .slice (some ⟨gk, 0, none⟩) (K.set i k).length ck, .slice (some ⟨gf, 0, none⟩) F.length cf, .inl rfl, by rw [hf]; rfl, by rw [hl]; exact (hba.only h1 (fun e => own_blk_ne hksa hba (by decide) (by rw [e]; rfl))), h5, owns_only hfra h1 (fun g hg e => owns_ne hfra hksa (by decide) hg (by rw [e]; rfl))⟩
set_option maxRecDepth 100000 in
attribute [local go_sem ↓] wp_load_k wp_store_kmid in
theorem place_free (w : World) (B C : Nat) (c0 c1 c4 kv fv : Value) (K : List Ky) (F : List Nat) (i : Nat) (k : Ky) (hb : Blk w C 55 #[c0, c1, kv, fv, c4]) (hB : B ≤ w.heap.size)
    (hks : w.ownsRow B 30 32 kv K.length (keysOf K)) (hfr : w.ownsRow B 3 1 fv (F.length + 1) (freesOf (F ++ [i]))) (hi : i < K.length) (hK : K.length ≤ 1048576) (hF : F.length ≤ 1048576) :
    Calls Try.prog 30 #[.pointer (some ⟨C, 0, none⟩), keyV k] w (PlacePost w B C c0 c1 c4 kv fv i (K.set i k) F) := by
  obtain ⟨gk, ck, rfl, hgk1, hgk2⟩ := hks.form (by omega)
  obtain ⟨gf, cf, rfl, hgf1, hgf2⟩ := hfr.form (by omega)
  have hnc : F.length + 1 ≤ cf ∧ cf ≤ 9223372036854775807 := by
    rcases hfr.2 with ⟨h, _⟩ | ⟨_, _, _, h, _, _, h1, h2, _⟩
    · cases h
    · injection h with _ _ h; subst h; unfold maxLen at h2; exact ⟨h1, h2⟩
  obtain ⟨hnc, hcf⟩ := hnc
  have hcut := owns_cut hfr (Nat.le_succ _) (by omega)
  rw [freesOf_take, Nat.mul_one, List.take_append_of_le_length (by rw [freesOf_len]; omega), List.take_of_length_le (by rw [freesOf_len]; omega)] at hcut
  have hlast : w.cell? ⟨gf, F.length, none⟩ = some (.int .i64 (i : Int)) := by
    rw [hfr.cellAt _ (by omega), freesOf_take, List.getElem?_append_right (by rw [freesOf_len]; omega), freesOf_len]
    simp
  have hlen : ((F.length : Int) + 1 - 1) = F.length := by omega
  have HCUT := Lib.hid hcut
  have HKS := Lib.hid hks
  have HLEN := Lib.hid hlen
  have HB := Lib.hid hb
  have x2 : w.cell? ⟨C, 2, none⟩ = some (.slice (some ⟨gk, 0, none⟩) K.length ck) := hb.cell 2
  have x3 : w.cell? ⟨C, 3, none⟩ = some (.slice (some ⟨gf, 0, none⟩) (F.length + 1) cf) := hb.cell 3
  have y3 : w.frozen? ⟨C, 3, none⟩ = false := hb.frozen 3
  have hCl := hb.lt
  obtain ⟨cx, hcx⟩ : ∃ cx, (bytesOf 32 k).toArray = cx := ⟨_, rfl⟩
  show Calls _ _ #[_, .agg (bytesOf 32 k).toArray] _ _
  rw [hcx]
  have HCX := Lib.hid hcx
  clear hcut hks hlen hfr hb hcx
  go_enter Try.func30, Try.ntmps30
  go_upto_region 5 with (fail)
  generalize hwa : World.alloc _ _ = wa
  have ho : Only (fun g => g = C) w wa := by rw [← hwa]; exact (((Only.refl (fun g => g = C) w).setCell_ (p := ⟨C, 3, none⟩) (.inl rfl) _).alloc_ _)
  have hba : Blk wa C 55 #[c0, c1, .slice (some ⟨gk, 0, none⟩) K.length ck, .slice (some ⟨gf, 0, none⟩) F.length cf, c4] := by
    rw [← hwa]; exact (HB.out.set_ 3 _).alloc _
  have hk3 : Blk wa w.heap.size 30 (bytesOf 32 k).toArray := by rw [← hwa, HCX.out]; exact heap_alloc_at _ _ _ (by simp)
  have hksa : wa.ownsRow B 30 32 (.slice (some ⟨gk, 0, none⟩) K.length ck) K.length (keysOf K) := owns_only HKS.out ho (fun g hg e => own_blk_ne HKS.out HB.out (by decide) (e ▸ hg))
  have hfra : wa.ownsRow B 3 1 (.slice (some ⟨gf, 0, none⟩) F.length cf) F.length (freesOf F) := owns_only HCUT.out ho (fun g hg e => own_blk_ne HCUT.out HB.out (by decide) (e ▸ hg))
  have x2a : wa.cell? ⟨C, 2, none⟩ = some (.slice (some ⟨gk, 0, none⟩) K.length ck) := hba.cell 2
  have q1 := keyOk_mk (blk_key (W := wa.drew) hk3)
  have q2 := loadK_eq (blk_key (W := wa.drew) hk3)
  have q3 : KeyMid wa.drew (.pointer (some ⟨gk, i * 32, none⟩)) (keyV k) := ⟨_, _, _, rfl, rfl, owns_there (w := wa.drew) hksa i hi⟩
  have HO := Lib.hid ho
  have HBA := Lib.hid hba
  have HKSA := Lib.hid hksa
  have HFRA := Lib.hid hfra
  clear hwa ho hba hk3 hksa hfra HB HKS HCUT HCX x2 x3 y3 hlast
  go_region
  go_wp2_with fail
  go_ret
  exact place_end (wa := wa.drew) rfl HO.out.drew_ HBA.out HKSA.out HFRA.out hi

/-- a list literal of one key, in a region that draws its order -/
def IsKy (v : Value) : Prop := ∃ k : Ky, v = keyV k
theorem isKy (k : Ky) : IsKy (keyV k) := ⟨k, rfl⟩
theorem wp_build_key (dst : Option Tmp) (x : Operand) (ty : TypeId) (pos : String) (after : Array Edge) (guard : Option (Nat × Bool)) (a : Act) (W : World) (K : Act → World → Prop) (Q : Exit → Act → World → Prop) (h : IsKy (a.eval x)) :
    Oper.wp Try.prog { dst := dst, op := .buildSlice 28 1 #[(0, x)], type := ty, pos := pos, after := after, guard := guard } a W K Q = K (a.put dst (.slice (some ⟨W.heap.size, 0, none⟩) 1 1)) (W.alloc (.cells (a.eval x).cells 30)) := by
  obtain ⟨k, hx⟩ := h
  obtain ⟨i0, hi0, hz0, hz1, hz2⟩ := info_parts key_info
  have hf : Instr.fill (fun i => some (i * i0.size, i0.size)) ((Array.range (1 * i0.size)).map ((Value.agg (Array.replicate 32 (.int .u8 0))).cells[· % (Value.agg (Array.replicate 32 (.int .u8 0))).cells.size]!)) (#[(0, keyV k)].toList) = some (bytesOf 32 k).toArray := key_fill k i0 hz1
  have hrun := run_buildSlice (P := Try.prog) W 28 30 1 #[(0, keyV k)] (bytesOf 32 k).toArray i0 _ Try.underlying28 hi0 hz0 (by rw [hz1]; omega) (by rw [hz1]; omega) hf
  unfold Oper.wp execOp
  simp only [hx, Sem.run_bind, List.map_toArray, List.map_cons, List.map_nil, hrun, Result.andThen_ok]
  rfl
theorem place_end2 {w wa w3 : World} {B C : Nat} {c0 c1 c4 kv kv' fv : Value} {K : List Ky} {k : Ky} (hB : B ≤ w.heap.size) (ho : Only (fun g => g = C) w wa)
    (hba : Blk wa C 55 #[c0, c1, kv, fv, c4]) (hksa : wa.ownsRow B 30 32 kv K.length (keysOf K)) (hfra : wa.ownsRow B 3 1 fv 0 (freesOf []))
    (W : World) (hW : Below wa.heap.size wa W) (hk3 : w3.ownsRow B 30 32 kv' (K.length + 1) (keysOf K ++ keysOf [k])) (hg : W.grownBy w3 kv.ownBlock) (hat : kv'.ownBlock = kv.ownBlock ∨ kv'.ownBlock = some W.heap.size) :
    PlacePost w B C c0 c1 c4 kv fv K.length (K ++ [k]) [] (.returned (.int .i64 (K.length : Int))) (w3.setCell ⟨C, 2, none⟩ kv') := by
  have hks1 := owns_below hksa hW
  have hC : ∀ g, kv.ownBlock = some g → g ≠ C := fun g hg e => own_blk_ne hksa hba (by decide) (e ▸ hg)
  have ho1 : Only (fun g => g = C ∨ kv.ownBlock = some g) w W := (ho.mono (fun _ h => .inl h)).trans (Only.of_below (fun _ => False) hW) (fun _ h => h.elim)
  have ho3 : Only (fun g => g = C ∨ kv.ownBlock = some g) w w3 := ho1.trans (Only.of_grown hg) (fun _ h => .inl (.inr h))
  have hb3 : Blk w3 C 55 #[c0, c1, kv, fv, c4] := (hba.below hW hba.lt).grown hg (fun e => own_blk_ne hksa hba (by decide) e.symm)
  have hf3 : w3.ownsRow B 3 1 fv 0 (freesOf []) := owns_only (owns_below hfra hW) (Only.of_grown hg) (fun g h1 h2 => owns_ne hfra hksa (by decide) h1 h2)
  have hl : (K ++ [k]).length = K.length + 1 := by simp
  have hk4 : w3.ownsRow B 30 32 kv' (K ++ [k]).length (keysOf (K ++ [k])) := by rw [hl, keysOf_append]; exact hk3
  have ho4 : Only (fun g => g = C) w3 (w3.setCell ⟨C, 2, none⟩ kv') := (Only.refl (fun g => g = C) w3).setCell_ (p := ⟨C, 2, none⟩) (.inl rfl) _
  have hge := Nat.le_trans ho.size hW.size
  refine ⟨rfl, ho3.trans ho4 (fun _ h => .inl (.inl h)), kv', fv, ?_, rfl, hb3.set_ 2 kv', owns_only hk4 ho4 (fun g h1 h2 => own_blk_ne hk4 hb3 (by decide) (h2 ▸ h1)), owns_only hf3 ho4 (fun g h1 h2 => own_blk_ne hf3 hb3 (by decide) (h2 ▸ h1))⟩
  rcases hat with h | h
  · exact .inl h
  · exact .inr (fun g h1 => by rw [h] at h1; injection h1 with h1; omega)
set_option maxRecDepth 100000 in
attribute [local go_sem ↓] wp_load_k wp_build_key in
theorem place_new (w : World) (B C : Nat) (c0 c1 c4 kv fv : Value) (K : List Ky) (k : Ky) (hb : Blk w C 55 #[c0, c1, kv, fv, c4]) (hB : B ≤ w.heap.size)
    (hks : w.ownsRow B 30 32 kv K.length (keysOf K)) (hfr : w.ownsRow B 3 1 fv 0 (freesOf [])) (hK : K.length ≤ 1048576) :
    Calls Try.prog 30 #[.pointer (some ⟨C, 0, none⟩), keyV k] w (PlacePost w B C c0 c1 c4 kv fv K.length (K ++ [k]) []) := by
  obtain ⟨A, ck, rfl⟩ := own_form hks
  obtain ⟨Af, cf, rfl⟩ := own_form hfr
  obtain ⟨i0, hi0, hz0, hz1, hz2⟩ := info_parts key_info
  obtain ⟨n, hn⟩ : ∃ n, K.length = n := ⟨_, rfl⟩
  have x2 : w.cell? ⟨C, 2, none⟩ = some (.slice A K.length ck) := hb.cell 2
  have x3 : w.cell? ⟨C, 3, none⟩ = some (.slice Af 0 cf) := hb.cell 3
  have hCl := hb.lt
  obtain ⟨cx, hcx⟩ : ∃ cx, (bytesOf 32 k).toArray = cx := ⟨_, rfl⟩
  show Calls _ _ #[_, .agg (bytesOf 32 k).toArray] _ _
  rw [hcx]
  have HCX := Lib.hid hcx
  have HB := Lib.hid hb
  have HKS := Lib.hid hks
  have HFR := Lib.hid hfr
  have HI0 := Lib.hid hi0
  have HZ0 := Lib.hid hz0
  have HN := Lib.hid hn
  rw [hn] at hK
  have hnl : (n : Int) + 1 - 1 = n := by omega
  clear hcx hb hks hfr hi0 hz0 x2 hn
  go_enter Try.func30, Try.ntmps30
  go_upto_region 7 with (fail)
  generalize hwa : World.alloc _ _ = wa
  have hbw : Below w.heap.size w wa := by rw [← hwa]; exact (Below.refl _ _).alloc (Nat.le_refl _) _
  have hba := HB.out.below hbw HB.out.lt
  have hk3 : Blk wa w.heap.size 30 (bytesOf 32 k).toArray := by rw [← hwa, HCX.out]; exact heap_alloc_at _ _ _ rfl
  have hksa := owns_below HKS.out hbw
  have hfra := owns_below HFR.out hbw
  have hks2 := hksa
  rw [HN.out] at hks2
  have x2a : wa.cell? ⟨C, 2, none⟩ = some (.slice A n ck) := by rw [← HN.out]; exact hba.cell 2
  have q1 := keyOk_mk (blk_key (W := wa.drew) hk3)
  have q2 := loadK_eq (blk_key (W := wa.drew) hk3)
  have q3 := isKy k
  have hCa := hba.lt
  have hza := hbw.size
  have HBW := Lib.hid hbw
  have HBA := Lib.hid hba
  have HKS2 := Lib.hid hks2
  have HKSA := Lib.hid hksa
  have HFRA := Lib.hid hfra
  clear hwa x3 hbw hba hks2 hksa hfra HB HKS HFR HCX
  go_region_law (first
    | (refine step_append_any _ rfl (.tmp 44) (.tmp 46) _ rfl B 30 i0 _ 32 32 Try.underlying28 HI0.out HZ0.out hz1 hz2 rfl (by omega) (.slice A n ck) n (keysOf K) rfl (HKS2.out.drew.alloc _) _ _ 1 1 (keysOf [k]) rfl (key_reads wa.drew k) (keysOf_oneCell _) (by unfold maxLen; omega) (by omega) (by simp; omega) ?_
       intro v3 w3 hk4 hg4 hat4
       obtain ⟨A3, c3, rfl⟩ := own_form hk4
       have hb4 := (HBA.out.drew.alloc (.cells (bytesOf 32 k).toArray 30)).grown hg4 (fun e => own_blk_ne (HKS2.out.drew.alloc (.cells (bytesOf 32 k).toArray 30)) (HBA.out.drew.alloc (.cells (bytesOf 32 k).toArray 30)) (by decide) e.symm)
       have z2 := hb4.cell 2
       have z2f := hb4.frozen 2
       simp at z2
       have HK4 := Lib.hid hk4
       have HG4 := Lib.hid hg4
       have HAT4 := Lib.hid hat4
       clear hk4 hg4 hat4 hb4))
  all_goals
    go_wp2_with fail
    go_ret
    have hn := HN.out
    subst hn
    exact place_end2 hB (Only.of_below _ HBW.out) HBA.out HKSA.out HFRA.out _ ((below_drewN (Below.refl _ wa) 1).alloc (Nat.le_refl _) _) HK4.out HG4.out HAT4.out
end Go.Proofs.Ytegdchlbmjokmaa
