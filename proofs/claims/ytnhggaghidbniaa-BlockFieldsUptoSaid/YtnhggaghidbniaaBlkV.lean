/- What decoding a block leaves; lists of byte slices that grow. -/
import Derived.Test.YtnhggaghidbniaaBlkQ
import Derived.Test.YtnhggaghidbniaaBlkS
import Derived.Test.YtnhggaghidbniaaBlkU
namespace Go.Proofs.Ytnhggaghidbniaa
open Go.RowKit
set_option linter.unusedVariables false
set_option linter.unusedSimpArgs false
open Wir

/-! ### the plain part -/
theorem enc_ge {f : Fld} (h : f.right = true) : f.bytes.length ≤ (enc f).length := by
  unfold enc
  by_cases hk : f.kind = 0
  · have := right_num h hk
    have e : f.bytes = [] := by rw [this]
    rw [e]
    exact Nat.zero_le _
  · rw [if_neg hk]
    simp only [List.length_append]
    omega
theorem txsSum_le : ∀ {l : List Fld}, (∀ f ∈ l, f.right = true) → txsSum (l.map Fld.bytes) ≤ (msg l).length + 20 * l.length
  | [], _ => by simp [txsSum, fieldsSum]
  | f :: l, h => by
    have ih := txsSum_le (l := l) (fun g hg => h g (List.mem_cons_of_mem _ hg))
    have h1 := enc_ge (h f (List.mem_cons_self ..))
    unfold txsSum at ih ⊢
    rw [List.map_cons, List.map_cons, fieldsSum_cons, msg_cons, List.length_append, List.length_cons]
    show f.bytes.length + 20 + _ ≤ _
    omega
theorem parse_sum {b : List UInt8} {f : Fld} {r : List Fld} (hb : b.length ≤ 2097152) (hp : parse b 0 = some (f :: r)) : txsSum (r.map Fld.bytes) ≤ 999999000 := by
  obtain ⟨m1, m2, m3⟩ := parse_inv _ b 0 _ rfl (by omega) (by omega) hp
  have h1 := txsSum_le (l := r) (fun g hg => (m2 g (List.mem_cons_of_mem _ hg)).1.1)
  rw [List.length_cons] at m3
  have h2 : (msg r).length ≤ b.length := by rw [← m1, msg_cons, List.length_append]; omega
  omega
theorem dec_big {b : List UInt8} (h : 2097152 < b.length) : Wir.decode b = .error 3 := by unfold Wir.decode; rw [if_pos h]
theorem dec_none {b : List UInt8} (h : ¬ 2097152 < b.length) (hp : parse b 0 = none) : Wir.decode b = .error 4 := by unfold Wir.decode; rw [if_neg h, hp]
theorem dec_nil {b : List UInt8} (h : ¬ 2097152 < b.length) (hp : parse b 0 = some []) : Wir.decode b = .error 4 := by unfold Wir.decode; rw [if_neg h, hp]
theorem dec_first {b : List UInt8} {f : Fld} {r : List Fld} (h : ¬ 2097152 < b.length) (hp : parse b 0 = some (f :: r)) (hf : f.num ≠ 1 ∨ f.kind ≠ 2) : Wir.decode b = .error 4 := by
  unfold Wir.decode; rw [if_neg h, hp]; simp only []; rw [if_pos hf]
theorem dec_hd {b : List UInt8} {f : Fld} {r : List Fld} (h : ¬ 2097152 < b.length) (hp : parse b 0 = some (f :: r)) (hx : readH f.bytes = none) : Wir.decode b = .error 4 := by
  unfold Wir.decode; rw [if_neg h, hp]; simp only []
  split
  · rfl
  · rw [hx]
theorem dec_tail {b : List UInt8} {f : Fld} {r : List Fld} {x : Hd} (h : ¬ 2097152 < b.length) (hp : parse b 0 = some (f :: r)) (hx : readH f.bytes = some x) (hr : r.all (fun g => decide (g.num = 2) && decide (g.kind = 2)) = false) : Wir.decode b = .error 4 := by
  unfold Wir.decode; rw [if_neg h, hp]; simp only []
  split
  · rfl
  · rw [hx]; simp only []; rw [if_neg (by rw [hr]; decide)]
theorem dec_enc {b : List UInt8} {f : Fld} {r : List Fld} {x : Hd} (h : ¬ 2097152 < b.length) (hp : parse b 0 = some (f :: r)) (hf : f.num = 1 ∧ f.kind = 2) (hx : readH f.bytes = some x) (hr : r.all (fun g => decide (g.num = 2) && decide (g.kind = 2)) = true) {c : Int} (he : encE x (r.map Fld.bytes) = c) (hc : c ≠ 0) : Wir.decode b = .error c := by
  unfold Wir.decode; rw [if_neg h, hp]; simp only []
  rw [if_neg (by omega), hx]; simp only []; rw [if_pos hr, he, if_neg hc]
theorem dec_ok {b : List UInt8} {f : Fld} {r : List Fld} {x : Hd} (h : ¬ 2097152 < b.length) (hp : parse b 0 = some (f :: r)) (hf : f.num = 1 ∧ f.kind = 2) (hx : readH f.bytes = some x) (hr : r.all (fun g => decide (g.num = 2) && decide (g.kind = 2)) = true) (he : encE x (r.map Fld.bytes) = 0) : Wir.decode b = .ok (x, r.map Fld.bytes) := by
  unfold Wir.decode; rw [if_neg h, hp]; simp only []
  rw [if_neg (by omega), hx]; simp only []; rw [if_pos hr, he, if_pos rfl]
theorem dec_form_no {b : List UInt8} {f : Fld} {r : List Fld} {x : Hd} (h : ¬ 2097152 < b.length) (hp : parse b 0 = some (f :: r)) (hx : readH f.bytes = some x) (hne : form x (r.map Fld.bytes) ≠ b) : Wir.decode b = .error 4 := by
  have hi := form_iff (by omega) hp hx
  by_cases h1 : f.num = 1 ∧ f.kind = 2
  · cases hr : r.all (fun g => decide (g.num = 2) && decide (g.kind = 2)) with
    | true => exact absurd (hi.2 ⟨h1, hr⟩) hne
    | false => exact dec_tail h hp hx hr
  · exact dec_first h hp (by omega)
theorem encE_le (x : Hd) (txs : List (List UInt8)) : 0 ≤ encE x txs ∧ encE x txs ≤ 4 := by
  unfold encE
  split
  · omega
  · split
    · omega
    · split <;> omega
theorem readH_fits {b : List UInt8} {x : Hd} (h : readH b = some x) : x.fits := by
  unfold readH at h
  split at h
  · cases h
  · split at h
    · exact (hdOf_fits h).1
    · cases h

/-! ### boxes -/
set_option maxRecDepth 100000
def blZ : Array Value := (blCells (hdPart [] 0) (.slice none 0 0)).toArray
theorem blZ_zero : (Try.zeroCells28) = blZ := by kernel_rfl
theorem blZ_built : Try.prog.built 28 [] = some blZ := by kernel_rfl
theorem built_bl (x : Hd) : Try.prog.built 28 [(0, hdV x)] = some (blCells x (.slice none 0 0)).toArray := by kernel_rfl
theorem bl_szI (y : Hd) (tv : Value) : (Try.prog.info? 28).map (·.size) = some (blCells y tv).toArray.size := by
  rw [List.size_toArray, blCells_len]; kernel_rfl
theorem blZ_szI : (Try.prog.info? 28).map (·.size) = some blZ.size := bl_szI _ _
theorem bl_szZ (y : Hd) (tv : Value) : (blCells y tv).toArray.size = blZ.size := by unfold blZ; rw [List.size_toArray, List.size_toArray, blCells_len, blCells_len]
theorem blZ_one : blZ.all (·.oneCell') = true := all_one _ (blCells_one rfl)
theorem blCells_set (y : Hd) (tv tv' : Value) : (blCells y tv).toArray.setIfInBounds 131 tv' = (blCells y tv').toArray := by
  rw [List.setIfInBounds_toArray]
  congr 1
theorem bl_rangeAll {w : World} {g : Nat} {x : Hd} {tv : Value} (h : Blk w g 28 (blCells x tv).toArray) : w.rangeAt g 0 (blCells x tv) := blk_rangeN h

/-! ### lists of byte slices -/
def OwnT (w : World) (base : Nat) (v : Value) (l : List Value) : Prop := w.ownsRow base 33 1 v l.length l
theorem sl_info : (Try.prog.info? 33).map (fun i => (i.zero, i.size, i.bytes)) = some (some (.slice none 0 0), 1, 24) := by kernel_rfl
theorem sl_fill (A : Option Addr) (n c : Nat) (ie : TypeInfo) (hs : ie.size = 1) : Instr.fill (fun i => some (i * ie.size, ie.size)) ((Array.range (1 * ie.size)).map ((Value.slice none 0 0).cells[· % (Value.slice none 0 0).cells.size]!)) [(0, .slice A n c)] = some #[.slice A n c] := by
  rw [hs]
  kernel_rfl
theorem wpList_app_sl {ops : Array Oper} {rest : List Oper} {o : Oper} {a : Act} {w : World} {Q : Exit → Act → World → Prop} (hgd : o.guard = none) (s x : Operand)
    (ho : o.op = .call { callee := .builtin .append, args := #[s, x], argTypes := #[26, 26] })
    (base : Nat) (v : Value) (l : List Value) (hs : a.eval s = v) (hown : OwnT w base v l) (u : Value) (hy : u.oneCell' = true)
    (hx : a.eval x = .slice (some ⟨w.heap.size, 0, none⟩) 1 1) (hn : l.length ≤ 1073741824) (hbase : base ≤ w.heap.size)
    (h : ∀ v' w', OwnT w' base v' (l ++ [u]) → w.grownBy w' v.ownBlock → wpList Try.prog ops Q rest (a.put o.dst v') w') :
    wpList Try.prog ops Q (o :: rest) a (w.alloc (.cells #[u] 33)) := by
  obtain ⟨i0, hi0, hz0, hz1, hz2⟩ := info_parts sl_info
  have hown' : w.ownsRow base 33 1 v l.length l := hown
  refine app_own hgd s x _ ho base 33 i0 _ 1 24 Try.underlying26 hi0 hz0 hz1 hz2 rfl (by omega) v _ _ hs hown' [u] _ hx rfl (fun z hz => by rw [List.mem_singleton.1 hz]; exact hy) (by omega) (by omega) hbase ?_
  intro v' w' h1 h2
  refine h v' w' ?_ h2
  unfold OwnT
  rw [List.length_append]
  exact h1
/-- all fields but the first -/
theorem und_flds : Try.prog.underlying 46 = some (.slice (Try.prog.elem 46)) := by kernel_rfl
theorem size_flds (w : World) : (sizeOf (Try.prog.elem 46)).run Try.prog w = .ok 4 w := by kernel_rfl
theorem flds_tail {gl m c : Nat} (hc : m + 1 ≤ c) : ∃ A' c', (∀ W, (Instr.slice 46 (.slice (some ⟨gl, 0, none⟩) (m + 1) c) (some (.int .i64 1)) none none).run Try.prog W = .ok (.slice A' m c') W) ∧ (0 < m → A' = some ⟨gl, 4, none⟩) := by
  have hs : ∀ W, (Instr.slice 46 (.slice (some ⟨gl, 0, none⟩) (m + 1) c) (some (.int .i64 ((1 : Nat) : Int))) none none).run Try.prog W = .ok (sliced (some ⟨gl, 0, none⟩) 1 (m + 1) c 4) W := fun W => by
    rw [run_slice_l (ht := und_flds) (h0 := by omega) (h1 := by omega), size_flds]
    rfl
  exact ⟨_, _, hs, fun h => by rw [if_neg (by omega)]; rfl⟩
/-- where decoding stands -/
structure DecSt (w : World) (g gb : Nat) (y : Hd) (lv : Value) (items : List FItem) (tv : Value) (vals : List Value) (wr : World) : Prop where
  bel : Below w.heap.size w wr
  box : Blk wr g 28 blZ
  bx : Blk wr gb 28 (blCells y tv).toArray
  fs : OwnFs wr w.heap.size lv items
  row : OwnT wr w.heap.size tv vals
theorem OwnT.below {w w' : World} {base : Nat} {v : Value} {l : List Value} (h : OwnT w base v l) (hb : Below w.heap.size w w') : OwnT w' base v l := owns_below h hb
theorem OwnT.nil (w : World) (base : Nat) : OwnT w base (.slice none 0 0) [] := World.ownsRow_nil _ _ _ _
theorem DecSt.below {w wr w' : World} {g gb : Nat} {y : Hd} {lv tv : Value} {items : List FItem} {vals : List Value} (h : DecSt w g gb y lv items tv vals wr) (hb : Below wr.heap.size wr w') : DecSt w g gb y lv items tv vals w' :=
  ⟨h.bel.trans (hb.mono h.bel.size), h.box.below hb h.box.lt, h.bx.below hb h.bx.lt, h.fs.below hb, h.row.below hb⟩
theorem DecSt.app {w wr w' : World} {g gb : Nat} {y : Hd} {lv tv tv' u : Value} {items : List FItem} {vals : List Value} (h : DecSt w g gb y lv items tv vals wr) (hne : g ≠ gb) (hge : w.heap.size ≤ gb)
    (ho : OwnT w' w.heap.size tv' (vals ++ [u])) (hg : wr.grownBy w' tv.ownBlock) : Blk w' gb 28 (blCells y tv).toArray ∧ DecSt w g gb y lv items tv' (vals ++ [u]) (w'.setCell ⟨gb, 131, none⟩ tv') := by
  have hr : wr.ownsRow w.heap.size 33 1 tv vals.length vals := h.row
  have hn1 : some g ≠ tv.ownBlock := fun e => own_blk_ne hr h.box (by decide) e.symm
  have hn2 : some gb ≠ tv.ownBlock := fun e => own_blk_ne hr h.bx (by decide) e.symm
  have hbx := h.bx.grown hg hn2
  have hf : wr.ownsRow w.heap.size 50 4 lv items.length (fldsOf items) := h.fs.row
  have ho2 : Only (fun k => k = gb) w' (w'.setCell ⟨gb, 131, none⟩ tv') := (Only.refl (fun k => k = gb) w').setCell_ (p := ⟨gb, 131, none⟩) (.inl rfl) tv'
  refine ⟨hbx, (h.bel.grown hg h.bel.size (fun k e => (hr.lt k e).1)).setCell hge _, (h.box.grown hg hn1).far hne _, ?_, ⟨?_, fun x hx => ?_⟩, ?_⟩
  · rw [← blCells_set y tv tv']
    exact hbx.set_ 131 tv'
  · have h1 := owns_apart hf hr (by decide) hg
    exact owns_only h1 ho2 (fun k e1 e2 => own_blk_ne h1 hbx (by decide) (e2 ▸ e1))
  · have h0 : wr.ownsRow w.heap.size 5 1 x.v x.f.bytes.length (bytesL x.f.bytes) := h.fs.byt x hx
    have h1 := owns_apart h0 hr (by decide) hg
    exact owns_only h1 ho2 (fun k e1 e2 => own_blk_ne h1 hbx (by decide) (e2 ▸ e1))
  · have h1 : w'.ownsRow w.heap.size 33 1 tv' (vals ++ [u]).length (vals ++ [u]) := ho
    exact owns_only h1 ho2 (fun k e1 e2 => own_blk_ne h1 hbx (by decide) (e2 ▸ e1))
theorem txs_own {w : World} {base : Nat} {tv : Value} {tl : List FItem} (h : OwnT w base tv (tl.map FItem.v)) (hb : ∀ x ∈ tl, OwnB w base x.v x.f.bytes) : TxsAt w tv ((tl.map FItem.f).map Fld.bytes) := by
  have hr : w.ownsRow base 33 1 tv (tl.map FItem.v).length (tl.map FItem.v) := h
  obtain ⟨ao, g2, cap, e1, e2, e3, e4, e5⟩ := owns_cells hr
  have hcm : cap ≤ 9223372036854775807 := by
    rcases hr.2 with ⟨hv, h0⟩ | ⟨gg, cc, cur, hv, hb, hg, hnc, hcm, hsz, htk⟩
    · rw [hv] at e1; injection e1; omega
    · rw [hv] at e1; injection e1 with _ _ e; unfold maxLen at hcm; omega
  refine ⟨ao, cap, ?_, ?_, hcm, g2, 0, ?_, fun j b hj => ?_⟩
  · rw [e1]; simp
  · simpa using e4
  · intro hn; exact e2 (by simpa using hn)
  · rw [List.map_map, List.getElem?_map] at hj
    obtain ⟨x, hx, rfl⟩ := Option.map_eq_some_iff.1 hj
    exact ⟨x.v, e5 j x.v (by rw [List.getElem?_map, hx]; rfl), (hb x (List.mem_of_getElem? hx)).see⟩
theorem DecSt.txs {w wr : World} {g gb : Nat} {y : Hd} {lv tv : Value} {i0 : FItem} {tl : List FItem} (h : DecSt w g gb y lv (i0 :: tl) tv (tl.map FItem.v) wr) : TxsAt wr tv ((tl.map FItem.f).map Fld.bytes) :=
  txs_own h.row (fun x hx => h.fs.byt x (List.mem_cons_of_mem _ hx))
theorem DecSt.done {w wr : World} {g gb : Nat} {y : Hd} {lv tv : Value} {i0 : FItem} {tl : List FItem} (h : DecSt w g gb y lv (i0 :: tl) tv (tl.map FItem.v) wr) (cs : Array Value) : TxsAt (wr.setRow g cs) tv ((tl.map FItem.f).map Fld.bytes) := by
  have ho : Only (fun k => k = g) wr (wr.setRow g cs) := (Only.refl (fun k => k = g) wr).setRow_ (.inl rfl) cs
  have hr : wr.ownsRow w.heap.size 33 1 tv (tl.map FItem.v).length (tl.map FItem.v) := h.row
  refine txs_own (base := w.heap.size) (owns_only hr ho (fun k e1 e2 => own_blk_ne hr h.box (by decide) (e2 ▸ e1))) (fun x hx => ?_)
  have h1 : wr.ownsRow w.heap.size 5 1 x.v x.f.bytes.length (bytesL x.f.bytes) := h.fs.byt x (List.mem_cons_of_mem _ hx)
  exact owns_only h1 ho (fun k e1 e2 => own_blk_ne h1 h.box (by decide) (e2 ▸ e1))
theorem all_no {tl : List FItem} {j : Nat} {x : FItem} (h : tl[j]? = some x) (hn : (decide (x.f.num = 2) && decide (x.f.kind = 2)) = false) : (tl.map FItem.f).all (fun g => decide (g.num = 2) && decide (g.kind = 2)) = false := by
  rw [List.all_eq_false]
  exact ⟨x.f, List.mem_map.2 ⟨x, List.mem_of_getElem? h, rfl⟩, by rw [hn]; decide⟩
/-- what decoding leaves -/
def DecOut (w : World) (b : List UInt8) (e : Ending) (w' : World) : Prop :=
  Below w.heap.size w w' ∧ match Wir.decode b with
  | .error c => e = .returned (.tuple #[.agg blZ, .int .i64 c])
  | .ok (x, txs) => ∃ tv, e = .returned (.tuple #[blV x tv, .int .i64 0]) ∧ TxsAt w' tv txs
end Go.Proofs.Ytnhggaghidbniaa
