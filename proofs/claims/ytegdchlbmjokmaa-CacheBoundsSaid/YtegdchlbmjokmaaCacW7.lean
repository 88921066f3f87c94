/- The cache, said of its keys alone. -/
import Derived.Test.YtegdchlbmjokmaaCacW6
namespace Go.Proofs.Ytegdchlbmjokmaa
open Go.RowKit
set_option linter.unusedVariables false
open Lnk

/-- where a key stands first -/
def idxK (L : List Ky) (k : Ky) : Option Nat := L.findIdx? fun p => keyEq p k
def pushK (L : List Ky) (sz : Nat) (k : Ky) : List Ky := match idxK L k with | some i => lackT L i ++ [k] | none => (L ++ [k]).drop (if L.length < sz then 0 else 1)
def dropK (L : List Ky) (k : Ky) : List Ky := match idxK L k with | some i => lackT L i | none => L
theorem idxK_none {L : List Ky} {k : Ky} (h : hasK L k = false) : idxK L k = none := by
  unfold idxK
  rw [List.findIdx?_eq_none_iff]
  intro x hx
  rw [← Bool.not_eq_true]
  intro h2
  have : hasK L k = true := List.any_eq_true.2 ⟨x, hx, h2⟩
  rw [h] at this; cases this
theorem idxK_some {L : List Ky} {k : Ky} (h : hasK L k = true) : ∃ i p, idxK L k = some i ∧ L[i]? = some p ∧ keyEq p k = true := by
  unfold hasK at h
  obtain ⟨p, hp, hk⟩ := List.any_eq_true.1 h
  cases hi : idxK L k with
  | none =>
    unfold idxK at hi
    rw [List.findIdx?_eq_none_iff] at hi
    rw [hi p hp] at hk; cases hk
  | some i =>
    have hi' := hi
    unfold idxK at hi'
    rw [List.findIdx?_eq_some_iff_getElem] at hi'
    obtain ⟨h1, h2, _⟩ := hi'
    exact ⟨i, L[i], rfl, List.getElem?_eq_getElem h1, h2⟩
theorem any_map_k (T : List CT) (k : Ky) : (T.any fun t => keyEq t.k k) = hasK (T.map CT.k) k := by
  unfold hasK; rw [List.any_map]; rfl

/-- at C lies a cache of size sz with the keys L, old to new; kb is the block of its keys -/
def CacL (w : World) (B C sz : Nat) (L : List Ky) (kb : Option Nat) : Prop := ∃ D rv r kv K fv F M Dm T, CaAt w B C sz T D rv r kv K fv F M Dm ∧ T.map CT.k = L ∧ kv.ownBlock = kb
theorem CacL.cac {w : World} {B C sz : Nat} {L : List Ky} {kb : Option Nat} (h : CacL w B C sz L kb) : ∃ T, Cac w B C sz T ∧ T.map CT.k = L := by
  obtain ⟨D, rv, r, kv, K, fv, F, M, Dm, T, h1, h2, _⟩ := h
  exact ⟨T, ⟨D, rv, r, kv, K, fv, F, M, Dm, h1⟩, h2⟩
theorem CacL.below {w w' : World} {B C sz : Nat} {L : List Ky} {kb : Option Nat} (h : CacL w B C sz L kb) (hb : Below w.heap.size w w') : CacL w' B C sz L kb := by
  obtain ⟨D, rv, r, kv, K, fv, F, M, Dm, T, h1, h2, h3⟩ := h
  exact ⟨D, rv, r, kv, K, fv, F, M, Dm, T, h1.below hb, h2, h3⟩
theorem CacL.len {w : World} {B C sz : Nat} {L : List Ky} {kb : Option Nat} (h : CacL w B C sz L kb) : L.length ≤ sz ∧ sz ≤ 1024 := by
  obtain ⟨D, rv, r, kv, K, fv, F, M, Dm, T, h1, rfl, h3⟩ := h
  have := h1.inv.len
  have := h1.inv.le
  have := h1.sz
  rw [List.length_map]
  omega
/-- what a step of the cache leaves -/
def CPost (w : World) (B C sz : Nat) (kb : Option Nat) (L : List Ky) (v : Value) (e : Ending) (w' : World) : Prop :=
  e = .returned v ∧ Only (CFoot w B kb) w w' ∧ ∃ kb', (kb' = kb ∨ ∀ g, kb' = some g → w.heap.size ≤ g) ∧ CacL w' B C sz L kb'
theorem CFoot.mono {w : World} {B : Nat} {kb : Option Nat} {g : Nat} (h : CFoot w B none g) : CFoot w B kb g := ⟨h.1, .inr (by rcases h.2 with h2 | h2; cases h2; exact h2)⟩
/-- a later world's blocks are these blocks, or new ones -/
theorem CFoot.back {w w1 : World} {B : Nat} {kb kb1 : Option Nat} (S : Nat → Prop) (ho : Only S w w1) (hS : ∀ g, S g → CFoot w B kb g) (hk : kb1 = kb ∨ ∀ g, kb1 = some g → w.heap.size ≤ g) : ∀ g, CFoot w1 B kb1 g → CFoot w B kb g ∨ w.heap.size ≤ g := by
  intro g hg
  rcases Nat.lt_or_ge g w.heap.size with hlt | hge
  · by_cases hs : S g
    · exact .inl (hS g hs)
    · refine .inl ⟨hg.1, ?_⟩
      rcases hg.2 with h2 | h2
      · rcases hk with hk | hk
        · exact .inl (hk ▸ h2)
        · exact absurd (hk g h2) (by omega)
      · exact .inr (fun t cs hb => h2 t cs (hb.only ho hs))
  · exact .inr hge

/-! ### a key's index -/
def plI (K : List Ky) (F : List Nat) : Nat := F.getLast?.getD K.length
def plK (K : List Ky) (F : List Nat) (k : Ky) : List Ky := match F.getLast? with | some i => K.set i k | none => K ++ [k]
theorem inv_place {sz : Nat} {T : List CT} {K : List Ky} {F : List Nat} (h : CInv sz T K F) (hz : T.length < sz) {s : Nat} {k : Ky} (hs : s ∉ T.map CT.s) (hk : ∀ t ∈ T, keyEq t.k k = false) :
    CInv sz (T ++ [⟨s, plI K F, k⟩]) (plK K F k) F.dropLast := by
  rcases List.eq_nil_or_concat F with rfl | ⟨F0, i, rfl⟩
  · have h1 := h.len
    have h2 := inv_new h (by simp at h1; omega) hs hk
    exact h2
  · have e1 : plI K (F0 ++ [i]) = i := by unfold plI; simp
    have e2 : plK K (F0 ++ [i]) k = K.set i k := by unfold plK; simp
    rw [List.concat_eq_append] at *
    rw [e1, e2, List.dropLast_concat]
    exact inv_free h hs hk
theorem cplace_any (w : World) (B C : Nat) (c0 c1 c4 kv fv : Value) (K : List Ky) (F : List Nat) (k : Ky) (hb : Blk w C 55 #[c0, c1, kv, fv, c4]) (hB : B ≤ w.heap.size)
    (hks : w.ownsRow B 30 32 kv K.length (keysOf K)) (hfr : w.ownsRow B 3 1 fv F.length (freesOf F)) (hi : ∀ i ∈ F, i < K.length) (hK : K.length ≤ 1048576) (hF : F.length ≤ 1048576) :
    Calls Try.prog 30 #[.pointer (some ⟨C, 0, none⟩), keyV k] w (PlacePost w B C c0 c1 c4 kv fv (plI K F) (plK K F k) F.dropLast) := by
  rcases List.eq_nil_or_concat F with rfl | ⟨F0, i, rfl⟩
  · exact place_new w B C c0 c1 c4 kv fv K k hb hB hks hfr hK
  · rw [List.concat_eq_append] at *
    have e1 : plI K (F0 ++ [i]) = i := by unfold plI; simp
    have e2 : plK K (F0 ++ [i]) k = K.set i k := by unfold plK; simp
    rw [e1, e2, List.dropLast_concat]
    rw [List.length_append, List.length_singleton] at hfr hF
    exact place_free w B C c0 c1 c4 kv fv K F0 i k hb hB hks hfr (hi i (by simp)) hK (by omega)
/-- the slot that comes next is not used -/
theorem slot_new {w : World} {B D : Nat} {rv : Value} {r : R} {T : List CT} (h : Lis w B D rv r) (hE : r.E = T.map CT.pair) : slotR r ∉ T.map CT.s := by
  obtain ⟨c, _, hr⟩ := h
  intro hm
  obtain ⟨t, ht, e⟩ := List.mem_map.1 hm
  obtain ⟨j, hj⟩ := List.getElem?_of_mem ht
  exact hr.fresh j t.pair (by rw [hE, List.getElem?_map, hj]; rfl) e
theorem pushBack_U {r : R} {v : Int} (h : r.U = r.E.length + r.F.length) : (pushBackR r v).U = (pushBackR r v).E.length + (pushBackR r v).F.length := by
  show (if r.F.length = 0 then r.U + 1 else r.U) = (r.E ++ [(slotR r, v)]).length + (r.F.take (r.F.length - 1)).length
  rw [List.length_append, List.length_take, List.length_singleton]
  split <;> omega
end Go.Proofs.Ytegdchlbmjokmaa
