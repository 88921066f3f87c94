/- Lists of entries in memory; lists of keys and of entries that grow; the plain answers of chapter 28. -/
import Derived.Test.YtoamjdjmfhdaeaaKeySk
import Derived.Test.YtoamjdjmfhdaeaaMkEn2
namespace Go.Proofs.Ytoamjdjmfhdaeaa
open Go.RowKit
set_option linter.unusedVariables false
set_option linter.unusedSimpArgs false
open ShaW Sha

/-- an entry, and where its bytes and peers lie -/
structure EItem where
  e : Ent
  rv : Value
  pv : Value
def EItem.cells (x : EItem) : List Value := entCells x.e x.rv x.pv
theorem EItem.len (x : EItem) : x.cells.length = 41 := entCells_len _ _ _
def entsOf (l : List EItem) : List Value := l.flatMap EItem.cells
theorem entsOf_append (p q : List EItem) : entsOf (p ++ q) = entsOf p ++ entsOf q := by unfold entsOf; rw [List.flatMap_append]
theorem entsOf_one (x : EItem) : entsOf [x] = x.cells := by unfold entsOf; simp
theorem entsOf_len (p : List EItem) : (entsOf p).length = p.length * 41 := by
  induction p with
  | nil => rfl
  | cons k p ih =>
    show (k.cells ++ entsOf p).length = _
    rw [List.length_append, ih, EItem.len, List.length_cons]
    omega
/-- rows that can be seen (of whatever blocks) -/
def SeeT (w : World) (v : Value) (n : Nat) (xs : List Value) : Prop := ∃ A c, v = .slice A n c ∧ Reads w w.heap.size 1 A n xs ∧ True
theorem SeeT.below {w w' : World} {v : Value} {n : Nat} {xs : List Value} (h : SeeT w v n xs) (hb : Below w.heap.size w w') : SeeT w' v n xs := by
  obtain ⟨A, c, e, hr, _⟩ := h
  exact ⟨A, c, e, (hr.below hb).more hb.size, trivial⟩
theorem SeeT.oneCell {w : World} {v : Value} {n : Nat} {xs : List Value} (h : SeeT w v n xs) : v.oneCell' = true := by
  obtain ⟨A, c, rfl, _⟩ := h
  rfl
theorem RdT.see {w : World} {ty : TypeId} {v : Value} {n : Nat} {xs : List Value} (h : RdT w ty v n xs) : SeeT w v n xs := by
  obtain ⟨A, c, e, hr, _⟩ := h
  exact ⟨A, c, e, hr, trivial⟩
/-- an entry whose bytes and peers can be seen -/
structure EntSee (w : World) (e : Ent) (rv pv : Value) : Prop where
  raw : SeeT w rv e.rn (bytesOf e.rn e.raw)
  peers : SeeT w pv e.peers.length (intsV e.peers)
theorem EntSee.below {w w' : World} {e : Ent} {rv pv : Value} (h : EntSee w e rv pv) (hb : Below w.heap.size w w') : EntSee w' e rv pv := ⟨h.raw.below hb, h.peers.below hb⟩
theorem EntSee.one {w : World} {e : Ent} {rv pv : Value} (h : EntSee w e rv pv) : ∀ u ∈ entCells e rv pv, u.oneCell' = true := entCells_one h.raw.oneCell h.peers.oneCell
theorem EntRd.see {w : World} {e : Ent} {rv pv : Value} (h : EntRd w e rv pv) : EntSee w e rv pv := ⟨h.raw.see, h.peers.see⟩
/-- a list of entries, to be read -/
def EntsAt (w : World) (A : Option Addr) (m c : Nat) (l : List EItem) : Prop :=
  l.length = m ∧ m ≤ c ∧ c ≤ 9223372036854775807 ∧ (∃ g o, (0 < m → A = some ⟨g, o, none⟩) ∧ ∀ j u, (entsOf l)[j]? = some u → w.cell? ⟨g, o + j, none⟩ = some u) ∧ ∀ x ∈ l, EntSee w x.e x.rv x.pv
theorem EntsAt.below {w w' : World} {A : Option Addr} {m c : Nat} {l : List EItem} (h : EntsAt w A m c l) (hb : Below w.heap.size w w') : EntsAt w' A m c l := by
  obtain ⟨h1, h2, h3, ⟨g, o, hA, hc⟩, h4⟩ := h
  exact ⟨h1, h2, h3, ⟨g, o, hA, fun j u hu => (hb.cell (p := ⟨g, o + j, none⟩) (World.block_lt_of_cell? w _ (hc j u hu))).trans (hc j u hu)⟩, fun x hx => (h4 x hx).below hb⟩
theorem EntsAt.at_ {w : World} {m c : Nat} {A : Option Addr} {l : List EItem} (h : EntsAt w A m c l) : ∃ g o, (0 < m → A = some ⟨g, o, none⟩) ∧ ∀ k, k < m → ∃ x, l[k]? = some x ∧ w.rangeAt g (o + k * 41) (entCells x.e x.rv x.pv) ∧ EntSee w x.e x.rv x.pv := by
  obtain ⟨h1, h2, h3, ⟨g, o, hA, hc⟩, h4⟩ := h
  refine ⟨g, o, hA, fun k hk => ?_⟩
  have hk' : k < l.length := by omega
  refine ⟨l[k], List.getElem?_eq_getElem hk', fun j u hu => ?_, h4 _ (List.getElem_mem hk')⟩
  rw [Nat.add_assoc]
  refine hc _ _ ?_
  have hj : j < 41 := by
    rcases Nat.lt_or_ge j 41 with h | h
    · exact h
    · rw [List.getElem?_eq_none (by rw [entCells_len]; exact h)] at hu; cases hu
  have e : l = l.take k ++ (l[k] :: l.drop (k + 1)) := by
    have := List.take_append_drop k l
    rw [List.drop_eq_getElem_cons hk'] at this
    exact this.symm
  have hl : (entsOf (l.take k)).length = k * 41 := by rw [entsOf_len, List.length_take]; congr 1; omega
  rw [e, entsOf_append, List.getElem?_append, if_neg (by rw [hl]; omega), hl, show k * 41 + j - k * 41 = j by omega]
  show (EItem.cells _ ++ entsOf _)[j]? = _
  rw [List.getElem?_append, if_pos (by rw [EItem.len]; exact hj)]
  exact hu
theorem EntsAt.len {w : World} {m c : Nat} {A : Option Addr} {l : List EItem} (h : EntsAt w A m c l) : l.length = m := h.1
/-- a list of entries of the call's own -/
def OwnE (w : World) (base : Nat) (v : Value) (l : List EItem) : Prop := w.ownsRow base 47 41 v l.length (entsOf l)
/-- a list of keys of the call's own -/
def OwnK (w : World) (base : Nat) (v : Value) (ps : List Ky) : Prop := w.ownsRow base 41 32 v ps.length (keysOf ps)
theorem OwnK.form {w : World} {base : Nat} {v : Value} {ps : List Ky} (h : OwnK w base v ps) : ∃ A c, v = .slice A ps.length c ∧ KeysAt w A ps.length c ps := by
  have h' : w.ownsRow base 41 32 v ps.length (keysOf ps) := h
  obtain ⟨A, c, rfl⟩ := own_form h'
  exact ⟨A, c, rfl, KeysAt.of_own h'⟩
theorem OwnE.form {w : World} {base : Nat} {v : Value} {l : List EItem} (h : OwnE w base v l) (hr : ∀ x ∈ l, EntSee w x.e x.rv x.pv) : ∃ A c, v = .slice A l.length c ∧ EntsAt w A l.length c l := by
  have h' : w.ownsRow base 47 41 v l.length (entsOf l) := h
  obtain ⟨A, c, rfl⟩ := own_form h'
  refine ⟨A, c, rfl, rfl, ?_⟩
  rcases h'.2 with ⟨hv, h0⟩ | ⟨g, cap, cur, hv, hb, hg, hnc, hcm, hsz, htk⟩
  · injection hv with h1 h2 h3
    subst h1 h3
    rw [h0]
    have : l = [] := List.length_eq_zero_iff.1 h0
    subst this
    exact ⟨Nat.le_refl _, by omega, ⟨0, 0, fun h => absurd h (Nat.lt_irrefl _), fun j u hu => by simp [entsOf] at hu⟩, hr⟩
  · injection hv with h1 h2 h3
    subst h1 h3
    refine ⟨hnc, hcm, ⟨g, 0, fun _ => rfl, fun j u hu => ?_⟩, hr⟩
    have := h'.cells (g := g) rfl j u hu
    rwa [add_flat] at this
theorem OwnK.below {w w' : World} {base : Nat} {v : Value} {ps : List Ky} (h : OwnK w base v ps) (hb : Below w.heap.size w w') : OwnK w' base v ps := owns_below h hb
theorem OwnE.below {w w' : World} {base : Nat} {v : Value} {l : List EItem} (h : OwnE w base v l) (hb : Below w.heap.size w w') : OwnE w' base v l := owns_below h hb
theorem OwnK.nil (w : World) (base : Nat) : OwnK w base (.slice none 0 0) [] := World.ownsRow_nil _ _ _ _
theorem OwnE.nil (w : World) (base : Nat) : OwnE w base (.slice none 0 0) [] := World.ownsRow_nil _ _ _ _
theorem ent_info : (Try.prog.info? 47).map (fun i => (i.zero, i.size, i.bytes)) = some (some (.agg (entCells ⟨fun _ => 0, 0, fun _ => 0, ByteArray.empty, 0, 0, 0, 0, 0, 0, []⟩ (.slice none 0 0) (.slice none 0 0)).toArray), 41, 144) := by kernel_rfl
theorem wpList_app_key {ops : Array Oper} {rest : List Oper} {o : Oper} {a : Act} {w : World} {Q : Exit → Act → World → Prop} (hgd : o.guard = none) (s x : Operand)
    (ho : o.op = .call { callee := .builtin .append, args := #[s, x], argTypes := #[23, 23] })
    (base : Nat) (v : Value) (ps : List Ky) (hs : a.eval s = v) (hown : OwnK w base v ps) (k : Ky)
    (hx : a.eval x = .slice (some ⟨w.heap.size, 0, none⟩) 1 1) (hn : ps.length ≤ 977343669106) (hbase : base ≤ w.heap.size)
    (h : ∀ v' w', OwnK w' base v' (ps ++ [k]) → Below base w w' → wpList Try.prog ops Q rest (a.put o.dst v') w') :
    wpList Try.prog ops Q (o :: rest) a (w.alloc (.cells (bytesOf 32 k).toArray 41)) := by
  obtain ⟨i0, hi0, hz0, hz1, hz2⟩ := info_parts key_info
  have hown' : w.ownsRow base 41 32 v ps.length (keysOf ps) := hown
  refine app_own hgd s x _ ho base 41 i0 _ 32 32 Try.underlying23 hi0 hz0 hz1 hz2 rfl (by omega) v _ _ hs hown' (bytesOf 32 k) _ hx (bytesOf_length _ _) (bytesOf_one _ _) (by omega) (by omega) hbase ?_
  intro v' w' h1 h2
  refine h v' w' ?_ ((Below.refl base w).grown h2 hbase (fun g e => (hown'.lt g e).1))
  unfold OwnK
  rw [List.length_append, keysOf_append, keysOf_one]
  exact h1
theorem wpList_app_ent {ops : Array Oper} {rest : List Oper} {o : Oper} {a : Act} {w : World} {Q : Exit → Act → World → Prop} (hgd : o.guard = none) (s x : Operand)
    (ho : o.op = .call { callee := .builtin .append, args := #[s, x], argTypes := #[22, 22] })
    (base : Nat) (v : Value) (l : List EItem) (hs : a.eval s = v) (hown : OwnE w base v l) (y : EItem) (hy : ∀ u ∈ entCells y.e y.rv y.pv, u.oneCell' = true)
    (hx : a.eval x = .slice (some ⟨w.heap.size, 0, none⟩) 1 1) (hn : l.length ≤ 977343669106) (hbase : base ≤ w.heap.size)
    (h : ∀ v' w', OwnE w' base v' (l ++ [y]) → Below base w w' → w.grownBy w' v.ownBlock → wpList Try.prog ops Q rest (a.put o.dst v') w') :
    wpList Try.prog ops Q (o :: rest) a (w.alloc (.cells (entCells y.e y.rv y.pv).toArray 47)) := by
  obtain ⟨i0, hi0, hz0, hz1, hz2⟩ := info_parts ent_info
  have hown' : w.ownsRow base 47 41 v l.length (entsOf l) := hown
  refine app_own hgd s x _ ho base 47 i0 _ 41 144 Try.underlying22 hi0 hz0 hz1 hz2 (by simp only [Value.cells, List.size_toArray]; exact entCells_len _ _ _) (by omega) v _ _ hs hown' (entCells y.e y.rv y.pv) _ hx (entCells_len _ _ _) hy (by omega) (by omega) hbase ?_
  intro v' w' h1 h2
  refine h v' w' ?_ ((Below.refl base w).grown h2 hbase (fun g e => (hown'.lt g e).1)) h2
  unfold OwnE
  rw [List.length_append, entsOf_append, entsOf_one]
  exact h1
theorem ent_fill (e : Ent) (A : Option Addr) (n c : Nat) (A' : Option Addr) (n' c' : Nat) (ie : TypeInfo) (hs : ie.size = 41) : Instr.fill (fun i => some (i * ie.size, ie.size)) ((Array.range (1 * ie.size)).map ((Value.agg (entCells ⟨fun _ => 0, 0, fun _ => 0, ByteArray.empty, 0, 0, 0, 0, 0, 0, []⟩ (.slice none 0 0) (.slice none 0 0)).toArray).cells[· % (Value.agg (entCells ⟨fun _ => 0, 0, fun _ => 0, ByteArray.empty, 0, 0, 0, 0, 0, 0, []⟩ (.slice none 0 0) (.slice none 0 0)).toArray).cells.size]!)) [(0, .agg (entCells e (.slice A n c) (.slice A' n' c')).toArray)] = some (entCells e (.slice A n c) (.slice A' n' c')).toArray := by
  rw [hs]
  kernel_rfl
/-- the cells of an entry in a row -/
theorem range_one {w : World} {g o : Nat} {e : Ent} {rv pv : Value} (h : w.rangeAt g o (entCells e rv pv)) (j : Nat) (u : Value) (hu : (entCells e rv pv)[j]? = some u) : w.cell? ⟨g, o + j, none⟩ = some u := h j u hu
theorem blk_ent_key {w : World} {g : Nat} {e : Ent} {rv pv : Value} (h : Blk w g 47 (entCells e rv pv).toArray) : ∀ j u, (bytesOf 32 e.key)[j]? = some u → w.cell? ((⟨g, 0, none⟩ : Addr).add j) = some u := by
  intro j u hu
  rw [add_flat, Nat.zero_add, h.cell]
  refine List.getElem?_toArray.trans ?_
  unfold entCells
  rw [List.getElem?_append_left (by
    have := (List.getElem?_eq_some_iff.1 hu).1
    exact this)]
  exact hu
theorem blk_ent_range {w : World} {g : Nat} {e : Ent} {rv pv : Value} (h : Blk w g 47 (entCells e rv pv).toArray) : w.rangeAt g 0 (entCells e rv pv) := fun j u hu => by
  rw [Nat.zero_add, h.cell]; exact List.getElem?_toArray.trans hu

theorem box_sto (W : World) (e : Ent) (rv pv : Value) (h1 : ∀ u ∈ entCells e rv pv, u.oneCell' = true) : StoOk 41 (W.alloc (.cells #[Value.int .u8 0, Value.int .u8 0, Value.int .u8 0, Value.int .u8 0, Value.int .u8 0, Value.int .u8 0, Value.int .u8 0, Value.int .u8 0, Value.int .u8 0, Value.int .u8 0, Value.int .u8 0, Value.int .u8 0, Value.int .u8 0, Value.int .u8 0, Value.int .u8 0, Value.int .u8 0, Value.int .u8 0, Value.int .u8 0, Value.int .u8 0, Value.int .u8 0, Value.int .u8 0, Value.int .u8 0, Value.int .u8 0, Value.int .u8 0, Value.int .u8 0, Value.int .u8 0, Value.int .u8 0, Value.int .u8 0, Value.int .u8 0, Value.int .u8 0, Value.int .u8 0, Value.int .u8 0, .slice none 0 0, .string { data := #[] }, .int .u64 0, .int .u64 0, .int .u64 0, .int .i64 0, .int .i64 0, .int .i64 0, .slice none 0 0] 47)) (.pointer (some ⟨W.heap.size, 0, none⟩)) (.agg (entCells e rv pv).toArray) :=
  ⟨_, 0, _, rfl, rfl, entCells_len _ _ _, blk_there (heap_alloc_new _ _) (Nat.le_refl 41), h1⟩
theorem box_end {W W' : World} {e : Ent} {rv pv : Value} (h : storeMid (W.alloc (.cells #[Value.int .u8 0, Value.int .u8 0, Value.int .u8 0, Value.int .u8 0, Value.int .u8 0, Value.int .u8 0, Value.int .u8 0, Value.int .u8 0, Value.int .u8 0, Value.int .u8 0, Value.int .u8 0, Value.int .u8 0, Value.int .u8 0, Value.int .u8 0, Value.int .u8 0, Value.int .u8 0, Value.int .u8 0, Value.int .u8 0, Value.int .u8 0, Value.int .u8 0, Value.int .u8 0, Value.int .u8 0, Value.int .u8 0, Value.int .u8 0, Value.int .u8 0, Value.int .u8 0, Value.int .u8 0, Value.int .u8 0, Value.int .u8 0, Value.int .u8 0, Value.int .u8 0, Value.int .u8 0, .slice none 0 0, .string { data := #[] }, .int .u64 0, .int .u64 0, .int .u64 0, .int .i64 0, .int .i64 0, .int .i64 0, .slice none 0 0] 47)) (.pointer (some ⟨W.heap.size, 0, none⟩)) (.agg (entCells e rv pv).toArray) = W') :
    Below W.heap.size W W' ∧ Blk W' W.heap.size 47 (entCells e rv pv).toArray := by
  rw [storeMid_eq] at h
  rw [← h]
  exact ⟨Only.below_trans ((Below.refl _ _).alloc (Nat.le_refl _) _) (setCells_only (fun k => k = W.heap.size) _ W.heap.size 0 _ (.inl rfl)) (by simp) (fun k hk => Nat.le_of_eq hk.symm), setCells_whole (heap_alloc_new _ _) (by rw [entCells_len]; rfl)⟩
theorem ent_ord {w : World} {g : Nat} {e : Ent} {rv pv : Value} (h : Blk w g 47 (entCells e rv pv).toArray) : w.cell? ⟨g, 39, none⟩ = some (.int .i64 e.ord) := by
  rw [h.cell]; exact List.getElem?_toArray.trans (entCells_get e _ _ 7)

/-! ### plainly -/
def hasI (ps : List Int) (p : Int) : Bool := ps.any (fun x => x == p)
def entKeys (l : List EItem) : List Ky := l.map (fun x => x.e.key)
/-- the peer lacks this one -/
def lackE (p : Int) (sent : List Ky) (x : EItem) : Bool := !hasK sent x.e.key && !hasI x.e.peers p
def leftE (p : Int) (sent : List Ky) (l : List EItem) : List EItem := l.filter (lackE p sent)
def pruneK (sent : List Ky) (l : List EItem) : List Ky := sent.filter (hasK (entKeys l))
theorem take_len {α : Type} {l : List α} {n m : Nat} (h : l.length = m) (hn : n = m) : l.take n = l := by subst hn h; exact List.take_length
theorem filter_snoc {α : Type} {f : α → Bool} {l : List α} {n : Nat} {x : α} (h : l[n]? = some x) : (l.take (n + 1)).filter f = (l.take n).filter f ++ (if f x = true then [x] else []) := by
  obtain ⟨hlt, e⟩ := List.getElem?_eq_some_iff.1 h
  rw [List.take_succ_eq_append_getElem hlt, e, List.filter_append]
  congr 1
  simp only [List.filter]
  cases f x <;> rfl
theorem filter_take_le {α : Type} {f : α → Bool} {l : List α} {n : Nat} : ((l.take n).filter f).length ≤ n := Nat.le_trans (List.length_filter_le _ _) (by rw [List.length_take]; omega)
end Go.Proofs.Ytoamjdjmfhdaeaa
