/- The cache in memory. -/
import Derived.Test.YtegdchlbmjokmaaCacSpec
namespace Go.Proofs.Ytegdchlbmjokmaa
open Go.RowKit
set_option linter.unusedVariables false
open Lnk

/-- the bound on a map's entries may always be its size -/
theorem owns_tight {H : Type} {w : World} {P : Program} {k : TypeId} {R : Value → Option (DataW H × List MemPlace)} {b n : Nat} {D : DataW H} (h : w.ownsMap P k R b n D) : w.ownsMap P k R b (Maps.size D) D := by
  obtain ⟨es, clock, h1, h2, h3, rfl⟩ := h
  refine ⟨es, clock, h1, h2, ?_, rfl⟩
  show es.size ≤ List.length _
  rw [Go.length_sorted]
  simp
/-- the map says of each key whether it is there, and in which slot -/
structure MapOf (D : DataW Unit) (T : List CT) : Prop where
  has : ∀ k, Maps.has D (klit k) = T.any fun t => keyEq t.k k
  at_ : ∀ t ∈ T, D.atKey (klit t.k) (.lit (.int .i64 0)) = .lit (.int .i64 (t.s : Int))
  size : Maps.size D = T.length
/-- at C lies a cache of size sz that stands for T -/
structure CaAt (w : World) (B C sz : Nat) (T : List CT) (D : Nat) (rv : Value) (r : R) (kv : Value) (K : List Ky) (fv : Value) (F : List Nat) (M : Nat) (Dm : DataW Unit) : Prop where
  ge : B ≤ C
  blk : Blk w C 55 #[.int .i64 (sz : Int), .pointer (some ⟨D, 0, none⟩), kv, fv, .map (some M)]
  lis : Lis w B D rv r
  ks : w.ownsRow B 30 32 kv K.length (keysOf K)
  fr : w.ownsRow B 3 1 fv F.length (freesOf F)
  mg : B ≤ M
  map : w.ownsMap Try.prog 30 (plainElem Try.prog 3) M (Maps.size Dm) Dm
  inv : CInv sz T K F
  el : r.E = T.map CT.pair
  us : r.U ≤ sz
  uef : r.U = r.E.length + r.F.length
  sz : sz ≤ 1024
  mp : MapOf Dm T
def Cac (w : World) (B C sz : Nat) (T : List CT) : Prop := ∃ D rv r kv K fv F M Dm, CaAt w B C sz T D rv r kv K fv F M Dm
def CacNil (w : World) (B C sz : Nat) : Prop := ∃ D rv r K F M Dm, CaAt w B C sz [] D rv r (.slice none 0 0) K (.slice none 0 0) F M Dm
theorem cac_new (w w1 : World) (B sz : Nat) (x : Int) (hx : x = (sz : Int)) (hB : B ≤ w.heap.size) (hb1 : Below w.heap.size w w1) (hz1 : w1.heap.size = w.heap.size + 1) (hl : Lis w1 B w.heap.size (.slice none 0 0) emptyR) (hs : sz ≤ 1024) :
    Below w.heap.size w ((w1.alloc (Obj.map #[] 0)).alloc (Obj.cells #[.int .i64 x, .pointer (some ⟨w.heap.size, 0, none⟩), .slice none 0 0, .slice none 0 0, .map (some (w.heap.size + 1))] 55)) ∧
    CacNil ((w1.alloc (Obj.map #[] 0)).alloc (Obj.cells #[.int .i64 x, .pointer (some ⟨w.heap.size, 0, none⟩), .slice none 0 0, .slice none 0 0, .map (some (w.heap.size + 1))] 55)) B (w.heap.size + 1 + 1) sz ∧ w.heap.size ≤ w.heap.size + 1 + 1 := by
  subst hx
  have hbm : Below w1.heap.size w1 ((w1.alloc (Obj.map #[] 0)).alloc (Obj.cells #[.int .i64 (sz : Int), .pointer (some ⟨w.heap.size, 0, none⟩), .slice none 0 0, .slice none 0 0, .map (some (w.heap.size + 1))] 55)) := ((Below.refl _ _).alloc (Nat.le_refl _) _).alloc (by simp) _
  refine ⟨hb1.trans (hbm.mono hb1.size), ⟨w.heap.size, .slice none 0 0, emptyR, [], [], w.heap.size + 1, .map [], ⟨by omega, heap_alloc_at _ _ _ (by simp; omega), hl.below hbm, World.ownsRow_nil _ _ _ _, World.ownsRow_nil _ _ _ _, by omega, ?_, inv_empty sz, rfl, Nat.zero_le _, rfl, hs, ⟨fun k => rfl, fun t ht => by simp at ht, rfl⟩⟩⟩, by omega⟩
  rw [← hz1]
  exact (World.ownsMap_made _ _ _ _).alloc _
def clampC (n : Int) : Nat := (min (max n 0) 1024).toNat
theorem cnew_any (w : World) (B : Nat) (hB : B ≤ w.heap.size) (n : Int) (hn : -9223372036854775808 ≤ n ∧ n ≤ 9223372036854775807) :
    Calls Try.prog 10 #[.int .i64 n] w fun e w' => ∃ C, e = .returned (.pointer (some ⟨C, 0, none⟩)) ∧ Below w.heap.size w w' ∧ CacNil w' B C (clampC n) ∧ w.heap.size ≤ C := by
  have hmm := @run_makeMap Try.prog
  have hc : min (max n 0) 1024 = (clampC n : Int) := by unfold clampC; omega
  have hc2 : clampC n ≤ 1024 := by unfold clampC; omega
  obtain ⟨sz, hsz⟩ : ∃ sz, clampC n = sz := ⟨_, rfl⟩
  rw [hsz] at hc hc2 ⊢
  go_enter Try.func10, Try.ntmps10
  go_wp2_with fail
  all_goals
    refine (lnewR_any _ B hB).mono ?_
    rintro e w1 ⟨rfl, hb1, hz1, hl1⟩
    have HB1 := Lib.hid hb1
    have HL1 := Lib.hid hl1
    clear hb1 hl1
    go_wp2_with fail
  all_goals
    go_ret
    exact ⟨_, rfl, cac_new w _ B sz _ (by omega) hB HB1.out hz1 HL1.out hc2⟩
end Go.Proofs.Ytegdchlbmjokmaa
