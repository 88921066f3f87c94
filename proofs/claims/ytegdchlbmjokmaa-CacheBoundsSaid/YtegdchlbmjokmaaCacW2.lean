/- The cache: Len and Has. -/
import Derived.Test.YtegdchlbmjokmaaCacW1
namespace Go.Proofs.Ytegdchlbmjokmaa
open Go.RowKit
set_option linter.unusedVariables false
open Lnk

theorem clen_any (w : World) (B C sz : Nat) (T : List CT) (h : Cac w B C sz T) :
    Calls Try.prog 14 #[.pointer (some ⟨C, 0, none⟩)] w fun e w' => e = .returned (.int .i64 (T.length : Int)) ∧ w = w' := by
  obtain ⟨D, rv, r, kv, K, fv, F, M, Dm, hc⟩ := h
  have x4 : w.cell? ⟨C, 4, none⟩ = some (.map (some M)) := hc.blk.cell 4
  have HM := Lib.hid hc.map
  have hsz : (Maps.size Dm : Int) = (T.length : Int) := by rw [hc.mp.size]
  clear hc
  go_enter Try.func14, Try.ntmps14
  go_wp2_with (at_len; refine wpList_len_own _ rfl _ 53 rfl 30 3 Try.underlying53 (plainElem Try.prog 3) M _ Dm rfl HM.out ?_)
  go_ret
  exact ⟨by rw [← hsz]; rfl, rfl⟩
/-- the lookup of a key -/
theorem cac_look {w : World} {M n : Nat} {Dm : DataW Unit} {T : List CT} (h : w.ownsMap Try.prog 30 (plainElem Try.prog 3) M n Dm) (hm : MapOf Dm T) (k : Ky) :
    ∃ c : Int, (Instr.lookup 53 (.map (some M)) (keyV k) true).run Try.prog w = .ok (.tuple #[.int .i64 c, .bool (T.any fun t => keyEq t.k k)]) w ∧ Dm.atKey (klit k) (.lit (.int .i64 0)) = .lit (.int .i64 c) := by
  have hz : (zeroValue 3).run Try.prog w = .ok (.int .i64 0) w := by rfl
  obtain ⟨v, ps, hrun, hv⟩ := h.look_ok key_keyed Try.underlying53 hz (plainElem_int Try.underlying3 (by decide)) (klit_of k)
  obtain ⟨c, rfl, hc, _⟩ := plainElem_int_inv Try.underlying3 hv
  simp only [Prod.mk.injEq] at hc
  rw [hm.has k] at hrun
  exact ⟨c, hrun, hc.1⟩
set_option maxRecDepth 100000 in
attribute [local go_sem ↓] wp_load_k in
theorem chas_any (w : World) (B C sz : Nat) (T : List CT) (h : Cac w B C sz T) (k : Ky) :
    Calls Try.prog 17 #[.pointer (some ⟨C, 0, none⟩), keyV k] w fun e w' => e = .returned (.bool (T.any fun t => keyEq t.k k)) ∧ Below w.heap.size w w' := by
  obtain ⟨D, rv, r, kv, K, fv, F, M, Dm, hc⟩ := h
  obtain ⟨cx, hcx⟩ : ∃ cx, (bytesOf 32 k).toArray = cx := ⟨_, rfl⟩
  show Calls _ _ #[_, .agg (bytesOf 32 k).toArray] _ _
  rw [hcx]
  obtain ⟨bb, hbb⟩ : ∃ bb, (T.any fun t => keyEq t.k k) = bb := ⟨_, rfl⟩
  rw [hbb]
  have HBB := Lib.hid hbb
  have HCX := Lib.hid hcx
  have HC := Lib.hid hc
  clear hcx hc hbb
  go_enter Try.func17, Try.ntmps17
  go_upto_region 1 with (fail)
  generalize hwa : World.alloc w _ = wa
  have hb0 : Below w.heap.size w wa := by rw [← hwa]; exact (Below.refl _ _).alloc (Nat.le_refl _) _
  have hk3 : Blk wa w.heap.size 30 (bytesOf 32 k).toArray := by rw [← hwa, HCX.out]; exact Blk.new w _ _
  have HB0 := Lib.hid hb0
  have x4 : wa.cell? ⟨C, 4, none⟩ = some (.map (some M)) := (hb0.cell (p := ⟨C, 4, none⟩) HC.out.blk.lt).trans (HC.out.blk.cell 4)
  obtain ⟨c, hlk, _⟩ := cac_look (HC.out.map.kept (below_grownBy hb0 none) (by simp)).drew HC.out.mp k
  rw [HBB.out] at hlk
  have q1 := keyOk_mk (blk_key (W := wa.drew) hk3)
  have q2 := loadK_eq (blk_key (W := wa.drew) hk3)
  clear hwa hb0 hk3 HC HBB
  go_wp2_with fail
  go_region
  all_goals
    go_wp2_with fail
    go_ret
    exact ⟨rfl, by first | exact below_drewN HB0.out 1 | exact HB0.out⟩
end Go.Proofs.Ytegdchlbmjokmaa
