/- The linked list: Values. -/
import Derived.Test.YtegdchlbmjokmaaLnkW3
namespace Go.Proofs.Ytegdchlbmjokmaa
open Go.RowKit
set_option linter.unusedVariables false
open Lnk

theorem int_info : (Try.prog.info? 3).map (fun i => (i.zero, i.size, i.bytes)) = some (some (.int .i64 0), 1, 8) := by kernel_rfl
def slLen : Value → Nat
  | .slice _ n _ => n
  | _ => 0
/-- a slice of the call's own with these numbers -/
def OwnInts (w : World) (base : Nat) (v : Value) (l : List Int) : Prop := w.ownsRow base 3 1 v l.length (l.map (Value.int .i64))
theorem OwnInts.len {w : World} {base : Nat} {v : Value} {l : List Int} (h : OwnInts w base v l) : slLen v = l.length := by
  rcases h.2 with ⟨h1, h2⟩ | ⟨g, cap, cur, h1, _⟩ <;> rw [h1]
  · exact h2.symm
  · rfl
def ValuesPost (w : World) (l : List Int) (e : Ending) (w' : World) : Prop := ∃ v, e = .returned v ∧ Below w.heap.size w w' ∧ OwnInts w' w.heap.size v l

theorem take_snoc_int (E : List (Nat × Int)) (k : Nat) (x : Nat × Int) (h : E[k]? = some x) : (E.map Prod.snd).take (k + 1) = (E.map Prod.snd).take k ++ [x.2] := by
  have hk : k < E.length := by
    rcases Nat.lt_or_ge k E.length with h1 | h1
    · exact h1
    · rw [List.getElem?_eq_none h1] at h; cases h
  rw [List.take_succ_eq_append_getElem (by simpa using hk)]
  congr 1
  rw [List.getElem?_eq_getElem hk] at h
  injection h with h
  simp [h]

set_option maxHeartbeats 1000000 in
theorem lvalues_any (w : World) (B D : Nat) (rv : Value) (c : LS) (r : R) (h : ListAt w B D rv c) (hr : Rep c r) (hB : B ≤ w.heap.size) (hm : r.E.length ≤ 1048576) :
    Calls Try.prog 32 #[.pointer (some ⟨D, 0, none⟩)] w (ValuesPost w (r.E.map Prod.snd)) := by
  obtain ⟨i0, hi, hz0, hz1, hz2⟩ := info_parts int_info
  have HF := Lib.hid (lfirst_any w B D rv c h)
  have H := Lib.hid h
  have HR := Lib.hid hr
  have HB := Lib.hid hB
  clear h hr hB
  go_enter Try.func32, Try.ntmps32
  go_wp2_with fail
  refine HF.out.mono ?_
  rintro e w1 ⟨rfl, rfl⟩
  go_wp2_with fail
  go_loopw [3, 4] (fun v s wr => ∃ k : Nat, k ≤ r.E.length ∧ s = .int .i64 (oi (slotAt r.E k)) ∧ Below w.heap.size w wr ∧ OwnInts wr w.heap.size v ((r.E.map Prod.snd).take k)) (fun v s wr => r.E.length - slLen v)
  case atStart =>
    refine ⟨0, Nat.zero_le _, by rw [HR.out.ch.fi], Below.refl _ _, ?_⟩
    exact World.ownsRow_nil _ _ _ _
  case round =>
    obtain ⟨k, hk, rfl, hbel, hown⟩ := hrel
    have hl0 : ((r.E.map Prod.snd).take k).length = k := by rw [List.length_take, List.length_map]; omega
    have hlen := hown.len
    rw [hl0] at hlen
    rcases Nat.lt_or_ge k r.E.length with hlt | hge
    · obtain ⟨x, hx⟩ : ∃ x, r.E[k]? = some x := ⟨r.E[k]'hlt, List.getElem?_eq_getElem hlt⟩
      have hs : slotAt r.E k = some x.1 := by unfold slotAt; rw [hx]; rfl
      obtain ⟨a1, a2, a3⟩ := HR.out.ch.el k x hx
      have hxn : x.1 < c.n := by rw [HR.out.n]; exact (HR.out.el k x hx).1
      have htk := take_snoc_int r.E k x hx
      have hL : ListAt wr B D rv c := H.out.only (Only.of_below (fun _ => False) hbel) (fun _ _ h => h)
      obtain ⟨s, xv⟩ := x
      rw [hs, show oi (some (s, xv).1) = (s : Int) from rfl]
      obtain ⟨g, cap, hrv, hgD, hcap⟩ := hL.form (by omega)
      subst hrv
      have x0 : wr.cell? ⟨D, 0, none⟩ = some (.slice (some ⟨g, 0, none⟩) c.n cap) := hL.blk.cell 0
      have z0 : wr.cell? ⟨g, s * 4, none⟩ = some (.int .i64 xv) := by rw [hL.row.cellAt _ (by simp at hxn; omega), nodesOf_get _ (by simp at hxn; omega), cellN_val]; simp at a1; rw [a1]
      have hLg := (hL.row.lt g rfl).2
      have hLD := hL.blk.lt
      have hs' : (s : Int) < c.n := by simp at hxn; omega
      have hsz := hbel.size
      have t1 : ((s : Int) != -1) = true := by simp
      have HL := Lib.hid hL
      have HO := Lib.hid hown
      have HW := Lib.hid hbel
      have HA2 := Lib.hid a2
      have HT := Lib.hid htk
      have HX := Lib.hid hx
      have HLN := Lib.hid hlen
      clear hL hown hbel a1 a2 a3 htk hx hs hlen hxn
      go_wp2_with (at_builtin; refine halted ?_)
      change wpList _ _ _ _ _ _
      have hown : wr.ownsRow w.heap.size 3 1 u3 k (((r.E.map Prod.snd).take k).map (Value.int .i64)) := by
        have := HO.out
        unfold OwnInts at this
        rw [hl0] at this
        exact this
      refine app_own rfl (.tmp 17) (.tmp 26) _ rfl w.heap.size 3 i0 _ 1 8 Try.underlying22 hi hz0 hz1 hz2 rfl (by omega) u3 k _ rfl hown [.int .i64 xv] _ rfl rfl
        (by intro u hu; simp at hu; subst hu; rfl) (by omega) (by omega) hsz ?_
      intro v' w1 hown' hg
      have hb1 : Below w.heap.size w w1 := grownBy_below HW.out hown hg hsz (Nat.le_refl _)
      have hL : ListAt w1 B D (.slice (some ⟨g, 0, none⟩) c.n cap) c := H.out.only (Only.of_below (fun _ => False) hb1) (fun _ _ h => h)
      have hsn : s < c.n := by omega
      have x0' : w1.cell? ⟨D, 0, none⟩ = some (.slice (some ⟨g, 0, none⟩) c.n cap) := hL.blk.cell 0
      have z1' : w1.cell? ⟨g, s * 4 + 1, none⟩ = some (.int .i64 (oi (c.nx s))) := by rw [hL.row.cellAt _ (by omega), nodesOf_get _ (by omega), cellN_nx]
      have HO' := Lib.hid hown'
      have HB1 := Lib.hid hb1
      clear hown hown' hg hb1 hL hsn x0 z0 hl0
      go_wp2
      have hl1 : ((r.E.map Prod.snd).take (k + 1)).length = k + 1 := by rw [List.length_take, List.length_map]; omega
      have hnew : OwnInts w1 w.heap.size v' ((r.E.map Prod.snd).take (k + 1)) := by
        have := HO'.out
        unfold OwnInts
        rw [hl1, HT.out, List.map_append]
        exact this
      have hln := hnew.len
      rw [hl1] at hln
      go_roundw
      case rel => exact ⟨k + 1, by omega, by rw [HA2.out], HB1.out, hnew⟩
      case measure => rw [hln, HLN.out]; omega
    · have hk2 : k = r.E.length := by omega
      have e1 : slotAt r.E k = none := slotAt_none (by omega)
      rw [e1, show oi none = -1 from rfl]
      have HO := Lib.hid hown
      have HW := Lib.hid hbel
      have HK := Lib.hid hk2
      clear hown hbel hk2 e1 hlen hl0
      go_wp2
      go_ret
      refine ⟨_, rfl, HW.out, ?_⟩
      have := HO.out
      rw [List.take_of_length_le (by simp; omega)] at this
      exact this
end Go.Proofs.Ytegdchlbmjokmaa
