/- The cache: Remove, the walk. -/
import Derived.Test.YtegdchlbmjokmaaCacW5
import Derived.Outline
namespace Go.Proofs.Ytegdchlbmjokmaa
open Go.RowKit
set_option linter.unusedVariables false
open Lnk

set_option maxRecDepth 100000 in
attribute [local go_sem ↓] wp_load_k in
theorem crem_no (w : World) (B C sz : Nat) (T : List CT) (h : Cac w B C sz T) (k : Ky) (hno : (T.any fun t => keyEq t.k k) = false) :
    Calls Try.prog 20 #[.pointer (some ⟨C, 0, none⟩), keyV k] w fun e w' => e = .returned (.bool false) ∧ Below w.heap.size w w' := by
  obtain ⟨cx, hcx⟩ : ∃ cx, (bytesOf 32 k).toArray = cx := ⟨_, rfl⟩
  show Calls _ _ #[_, .agg (bytesOf 32 k).toArray] _ _
  rw [hcx]
  have HCX := Lib.hid hcx
  have HC := Lib.hid h
  have HNO := Lib.hid hno
  clear hcx h hno
  go_enter Try.func20, Try.ntmps20
  go_upto_region 1 with (fail)
  generalize hwa : World.alloc w _ = wa
  have hb0 : Below w.heap.size w wa := by rw [← hwa]; exact (Below.refl _ _).alloc (Nat.le_refl _) _
  have hk3 : Blk wa w.heap.size 30 (bytesOf 32 k).toArray := by rw [← hwa, HCX.out]; exact Blk.new w _ _
  have HB0 := Lib.hid hb0
  have q1 := keyOk_mk (blk_key hk3)
  have q2 := loadK_eq (blk_key hk3)
  have hc1 : Cac wa B C sz T := by
    obtain ⟨D, rv, r, kv, K, fv, F, M, Dm, hc⟩ := HC.out
    exact ⟨D, rv, r, kv, K, fv, F, M, Dm, hc.below hb0⟩
  have H := chas_any wa B C sz T hc1 k
  rw [HNO.out] at H
  have HH := Lib.hid H
  have hz := hb0.size
  clear hwa hb0 hk3 hc1 H
  go_wp2_with fail
  refine HH.out.mono ?_
  rintro e w1 ⟨rfl, hb1⟩
  have HB1 := Lib.hid (HB0.out.trans (hb1.mono hz))
  clear hb1
  go_wp2_with fail
  go_ret
  exact ⟨rfl, HB1.out⟩
set_option maxRecDepth 100000 in
attribute [local go_sem ↓] wp_load_k in
theorem crem_yes (w : World) (B C sz : Nat) (T : List CT) (D : Nat) (rv : Value) (r : R) (kv : Value) (K : List Ky) (fv : Value) (F : List Nat) (M : Nat) (Dm : DataW Unit) (h : CaAt w B C sz T D rv r kv K fv F M Dm) (hB : B ≤ w.heap.size)
    (i : Nat) (t : CT) (ht : T[i]? = some t) (k : Ky) (hk : keyEq t.k k = true) :
    Calls Try.prog 20 #[.pointer (some ⟨C, 0, none⟩), keyV k] w (RemPost w B C sz (lackT T i) D kv K (F ++ [t.i]) M) := by
  obtain ⟨cx, hcx⟩ : ∃ cx, (bytesOf 32 k).toArray = cx := ⟨_, rfl⟩
  show Calls _ _ #[_, .agg (bytesOf 32 k).toArray] _ _
  rw [hcx]
  have hany : (T.any fun t => keyEq t.k k) = true := by rw [lackT_any ht]; simp [hk]
  have hTl : T.length ≤ 1024 := by have := h.inv.len; have := h.inv.le; have := h.sz; omega
  have hFl : F.length ≤ 1024 := by have := h.inv.len; have := h.inv.le; have := h.sz; omega
  have HCX := Lib.hid hcx
  have HC := Lib.hid h
  have HANY := Lib.hid hany
  have HT := Lib.hid ht
  have HK := Lib.hid hk
  obtain ⟨i0, hi0, hz0, hz1, hz2⟩ := info_parts int_info
  have HI0 := Lib.hid hi0
  have HZ0 := Lib.hid hz0
  clear hcx h hany ht hk hi0 hz0
  go_enter Try.func20, Try.ntmps20
  go_upto_region 1 with (fail)
  generalize hwa : World.alloc w _ = wa
  have hb0 : Below w.heap.size w wa := by rw [← hwa]; exact (Below.refl _ _).alloc (Nat.le_refl _) _
  have hk3 : Blk wa w.heap.size 30 (bytesOf 32 k).toArray := by rw [← hwa, HCX.out]; exact Blk.new w _ _
  have HB0 := Lib.hid hb0
  have HK3 := Lib.hid hk3
  have q1 := keyOk_mk (blk_key hk3)
  have q2 := loadK_eq (blk_key hk3)
  have H := chas_any wa B C sz T ⟨D, rv, r, kv, K, fv, F, M, Dm, HC.out.below hb0⟩ k
  rw [HANY.out] at H
  have HH := Lib.hid H
  have hz := hb0.size
  clear hwa hb0 hk3 H
  go_wp2_with fail
  refine HH.out.mono ?_
  rintro e w1 ⟨rfl, hb1⟩
  have hb1' := HB0.out.trans (hb1.mono hz)
  have hc1 := HC.out.below hb1'
  have x4 : w1.cell? ⟨C, 4, none⟩ = some (.map (some M)) := hc1.blk.cell 4
  have x1 : w1.cell? ⟨C, 1, none⟩ = some (.pointer (some ⟨D, 0, none⟩)) := hc1.blk.cell 1
  have hk3 := HK3.out.below hb1 HK3.out.lt
  clear q1 q2
  have q1 := keyOk_mk (blk_key (W := w1.drew) hk3)
  have q2 := loadK_eq (blk_key (W := w1.drew) hk3)
  have hlk := cac_slot hc1.map.drew hc1.mp (List.mem_of_getElem? HT.out) HK.out
  have HB1 := Lib.hid hb1'
  have HC1 := Lib.hid hc1
  have HK4 := Lib.hid hk3
  have hz1' := hb1'.size
  clear hb1 hb1' hc1 hk3 HK3 HH
  go_wp2_with fail
  go_region
  go_wp2_with fail
  have hl1 : Lis w1.drew B D rv r := HC1.out.lis.below (below_drewN (Below.refl _ w1) 1)
  have HV := lval_any w1.drew B D rv r (t.s : Int) hl1
  have HR := lrem_any w1.drew B D rv r (t.s : Int) hl1 (by show B ≤ w1.heap.size; omega) (by rw [HC.out.el, List.length_map]; omega)
  rw [HC.out.el, value_pair HC.out.inv.sl HT.out, place_pair HC.out.inv.sl HT.out] at HV
  rw [HC.out.el, place_pair HC.out.inv.sl HT.out] at HR
  have hdr : dropR r (t.s : Int) = removeR r i t.s := by unfold dropR; rw [HC.out.el, place_pair HC.out.inv.sl HT.out]; rfl
  rw [hdr] at HR
  have HV := Lib.hid HV
  have HR := Lib.hid HR
  clear hl1 hdr
  refine HV.out.mono ?_
  rintro e w2 ⟨rfl, rfl⟩
  go_wp2_with fail
  refine HR.out.mono ?_
  rintro e w3 ⟨rfl, ho3, rv3, hl3⟩
  have ho3 : Only (foot D rv) w1 w3 := ho3.of_drew
  obtain ⟨hb3, hkk3, hf3, hm3⟩ := HC1.out.after_lis ho3
  have x3 : w3.cell? ⟨C, 3, none⟩ = some fv := hb3.cell 3
  have hCl3 := hb3.lt
  have HKB := Lib.hid (HC1.out.lis.blk_ne HK4.out (by decide) (by decide) ho3)
  have HO3 := Lib.hid ho3
  have HL3 := Lib.hid hl3
  have HB3 := Lib.hid hb3
  have HF3 := Lib.hid hf3
  have HM3 := Lib.hid hm3
  have hz3 := ho3.size
  clear ho3 hl3 hb3 hkk3 hf3 hm3 HV HR q1 q2 hlk x1 x4 HK4
  go_wp2_with (at_builtin; refine halted ?_)
  change wpList _ _ _ _ _ _
  refine app_at rfl (.tmp 37) (.tmp 39) _ rfl B 3 i0 _ 1 8 Try.underlying22 HI0.out HZ0.out hz1 hz2 rfl (by omega) fv F.length (freesOf F) (by rfl) HF3.out [.int .i64 (t.i : Int)] _ w3.heap.size rfl (by rfl) rfl
    (by intro u hu; simp at hu; subst hu; rfl) (by omega) (by omega) (by omega) ?_
  intro ao4 cap4 w4 hf4 hg4 hat4
  have hf4' : w4.ownsRow B 3 1 (.slice ao4 (F.length + 1) cap4) (F ++ [t.i]).length (freesOf (F ++ [t.i])) := by
    rw [freesOf_take, List.length_append]; exact hf4
  have hne4 : fv.ownBlock ≠ some C := own_blk_ne HF3.out HB3.out (by decide)
  have hb4 := HB3.out.grown hg4 (fun e => hne4 e.symm)
  have hkb4 := HKB.out.grown hg4 (fun e => own_blk_ne HF3.out HKB.out (by decide) e.symm)
  have hm4 := map_only HM3.out (Only.of_grown hg4) (fun e => HC1.out.foot_map.2.2.2 e)
  have x3 : w4.cell? ⟨C, 3, none⟩ = some fv := hb4.cell 3
  have y3 := hb4.frozen 3
  have hlk4 := hkb4.lt
  have HB4 := Lib.hid hb4
  have HKB4 := Lib.hid hkb4
  have HM4 := Lib.hid hm4
  have HF4 := Lib.hid hf4'
  have HG4 := Lib.hid hg4
  clear hf4 hg4 hat4 hf4' hne4 hb4 hkb4 hm4
  go_wp2_with fail
  generalize hw5 : World.setCell _ _ _ = w5
  have o5 : Only (fun g => g = C) w4 w5 := by rw [← hw5]; exact (Only.refl (fun g => g = C) w4).setCell_ (p := ⟨C, 3, none⟩) (.inl rfl) _
  have hb5 : Blk w5 C 55 #[.int .i64 (sz : Int), .pointer (some ⟨D, 0, none⟩), kv, .slice ao4 (F.length + 1) cap4, .map (some M)] := by rw [← hw5]; exact HB4.out.set_ 3 _
  have hkb5 := HKB4.out.only o5 (Blk.ne_ HKB4.out HB4.out (by decide))
  have hm5 : w5.drew.ownsMap Try.prog 30 (plainElem Try.prog 3) M (Maps.size Dm) Dm := map_only HM4.out o5.drew_ (fun e => HC1.out.foot_map.2.1 (Eq.symm e))
  have x4 : w5.cell? ⟨C, 4, none⟩ = some (.map (some M)) := hb5.cell 4
  have q1 := keyOk_mk (blk_key (W := w5.drew) hkb5)
  have q2 := loadK_eq (blk_key (W := w5.drew) hkb5)
  have HM5 := Lib.hid hm5
  have HW5 := Lib.hid hw5
  clear hw5 o5 hb5 hkb5 hm5 x3 y3
  go_region_law (refine step_delete_key rfl (.tmp 46) (.tmp 47) (by rfl) M _ Dm (by rfl) HM5.out k (by rfl) ?_
                 intro w6 hm6 ht6
                 have HM6 := Lib.hid hm6
                 have HT6 := Lib.hid ht6
                 clear hm6 ht6)
  all_goals
    go_wp2_with fail
    go_ret
    exact crem_end HC.out HB1.out HC1.out HT.out HK.out HO3.out HL3.out (by show without r.E i = _; rw [HC.out.el, without_pair]) rfl (by show (r.F ++ [t.s]).length = _; simp) HG4.out HF4.out HM6.out (by rw [HW5.out]; exact (Only.of_drew ((Only.of_grown HT6.out.grown).mono (fun g hg => Option.some.inj hg))))
end Go.Proofs.Ytegdchlbmjokmaa
