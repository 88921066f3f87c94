/- CachePlays: what holds while the cache and its reference are played; and long. -/
import Derived.Test.YtegdchlbmjokmaaCacKn
namespace Go.Proofs.Ytegdchlbmjokmaa
open Go.RowKit
set_option linter.unusedVariables false
set_option linter.unusedSimpArgs false
open Lnk

set_option maxHeartbeats 1000000 in
theorem long_gen (w : World) (g : Nat) (A : Option Addr) (n c : Nat) (b : Bool) (hc : w.cell? ⟨g, 0, none⟩ = some (.slice A n c)) (hn : n ≤ 9223372036854775807) (hb : decide (160 < (n : Int)) = b) :
    Calls Try.prog 7 #[.slice (some ⟨g, 0, none⟩) 1 1] w fun e w' => e = .returned (.bool b) ∧ w = w' := by
  have HB := Lib.hid hb
  clear hb
  go_enter Try.func7, Try.ntmps7
  go_wp2
  go_loop [3, 8] (fun s i => (s = .int .i64 0 ∧ i = .int .i64 0) ∨ (s = .int .i64 (n : Int) ∧ i = .int .i64 1)) (fun _ i => 1 - (intOf i).toNat)
  case atStart => exact .inl ⟨rfl, rfl⟩
  case round =>
    rcases hrel with ⟨rfl, rfl⟩ | ⟨rfl, rfl⟩
    · go_wp2
      go_round
      case rel => exact .inr ⟨rfl, rfl⟩
      case measure => simp [intOf]
    · go_wp2
      go_ret
      refine ⟨?_, rfl⟩
      rw [← HB.out]
      rfl
theorem long_any (w : World) (A : Option Addr) (n c g : Nat) (t : TypeId) (hg : g = w.heap.size) (hn : n ≤ 9223372036854775807) (b : Bool) (hb : decide (160 < (n : Int)) = b) :
    Calls Try.prog 7 #[.slice (some ⟨g, 0, none⟩) 1 1] (w.alloc (.cells #[.slice A n c] t)) fun e w' => e = .returned (.bool b) ∧ w.alloc (.cells #[.slice A n c] t) = w' :=
  long_gen _ g A n c b (by subst hg; rw [World.cell?_alloc_at _ _ _ _ rfl]; rfl) hn hb
theorem ite_yes {c : Prop} [Decidable c] {p q : Prop} (hc : c) (hp : p) : if c then p else q := by rw [if_pos hc]; exact hp
/-- where the numbers stand -/
def numC (w : World) (D : Nat) : Nat := match w.cell? ⟨D, 1, none⟩ with | some (.int _ k) => k.toNat | _ => 0
theorem NumAt.numC {w : World} {B D n N : Nat} (h : NumAt w B D n N) : numC w D = N := by
  obtain ⟨A, c, f, _, hb, _⟩ := h
  have := hb.cell 1
  simp at this
  unfold Go.Proofs.Ytegdchlbmjokmaa.numC
  rw [this]
  simp
theorem NumAt.blk {w : World} {B D n N : Nat} (h : NumAt w B D n N) : ∃ cs, Blk w D 44 cs := by
  obtain ⟨A, c, f, _, hb, _⟩ := h
  exact ⟨_, hb⟩
theorem NumAt.below_ {w w' : World} {B D n N : Nat} (h : NumAt w B D n N) (hB : B ≤ w.heap.size) (hb : Below w.heap.size w w') : NumAt w' B D n N :=
  h.only (Only.of_below (fun _ => False) hb) hB (fun _ h => h.elim) (fun h => h)
theorem CacL.foot_ne {w : World} {B C sz : Nat} {L : List Ky} {kb : Option Nat} (h : CacL w B C sz L kb) {g : Nat} {t : TypeId} {cs : Array Value} (hb : Blk w g t cs) (ht : t ∉ [55, 63, 65, 3]) (hk : kb ≠ some g) : ¬ CFoot w B kb g := by
  rintro ⟨_, h1 | h1⟩
  · exact hk h1
  · exact Kin.not hb ht h1
theorem CacL.kb_lt {w : World} {B C sz : Nat} {L : List Ky} {kb : Option Nat} (h : CacL w B C sz L kb) : ∀ g, kb = some g → g < w.heap.size := by
  obtain ⟨D, rv, r, kv, K, fv, F, M, Dm, T, h1, rfl, rfl⟩ := h
  exact fun g hg => (h1.ks.lt g hg).2
theorem CacL.kb_ne {w : World} {B C sz : Nat} {L : List Ky} {kb : Option Nat} (h : CacL w B C sz L kb) {g : Nat} {t : TypeId} {cs : Array Value} (hb : Blk w g t cs) (ht : t ≠ 30) : kb ≠ some g := by
  obtain ⟨D, rv, r, kv, K, fv, F, M, Dm, T, h1, rfl, rfl⟩ := h
  exact own_blk_ne h1.ks hb (Ne.symm ht)
/-- blocks of other types turn -/
theorem CacL.apart {w w' : World} {S : Nat → Prop} {B C sz : Nat} {L : List Ky} {kb : Option Nat} (h : CacL w B C sz L kb) (ho : Only S w w') (hS : ∀ g, S g → ∃ t cs, Blk w g t cs ∧ t ∉ [55, 63, 65, 3, 30]) : CacL w' B C sz L kb := by
  obtain ⟨D, rv, r, kv, K, fv, F, M, Dm, T, h1, rfl, rfl⟩ := h
  have hb : ∀ {g : Nat} {t : TypeId} {cs : Array Value}, Blk w g t cs → t ∈ [55, 63, 65, 3, 30] → ¬ S g := fun h2 h3 h4 => by
    obtain ⟨t, cs, h5, h6⟩ := hS _ h4
    unfold Blk at h2 h5
    rw [h2] at h5
    injection h5 with h5
    injection h5 with _ h7
    exact h6 (h7 ▸ h3)
  have hr : ∀ {base : Nat} {e : TypeId} {size n : Nat} {v : Value} {xs : List Value}, w.ownsRow base e size v n xs → e ∈ [55, 63, 65, 3, 30] → ∀ g, v.ownBlock = some g → ¬ S g := fun h2 h3 g hg => by
    rcases h2.2 with ⟨h5, _⟩ | ⟨k, cap, cur, h5, _, h6, _⟩
    · rw [h5] at hg; cases hg
    · rw [h5] at hg
      injection hg with hg
      subst hg
      exact hb h6 h3
  have hm : ¬ S M := fun h4 => by
    obtain ⟨t, cs, h5, h6⟩ := hS _ h4
    obtain ⟨es, c, h7⟩ := map_blk h1.map
    unfold Blk at h5
    rw [h7] at h5
    cases h5
  refine ⟨D, rv, r, kv, K, fv, F, M, Dm, T, ⟨h1.ge, h1.blk.only ho (hb h1.blk (by simp)), h1.lis.only ho (fun g hg => ?_), owns_only h1.ks ho (hr h1.ks (by simp)), owns_only h1.fr ho (hr h1.fr (by simp)), h1.mg, map_only h1.map ho hm, h1.inv, h1.el, h1.us, h1.uef, h1.sz, h1.mp⟩, rfl, rfl⟩
  obtain ⟨c0, hl, _⟩ := h1.lis
  rcases hg with rfl | hg
  · exact hb hl.blk (by simp)
  · exact hr hl.row (by simp) g hg

/-- the cache and its reference in step; x is the key that is asked for, in block box -/
structure PSt (w0 : World) (B D C sz n : Nat) (W : World) (L : List Ky) (mv : Value) (N : Nat) (kb gb : Option Nat) : Prop where
  bel : Below B w0 W
  le : B ≤ W.heap.size
  num : NumAt W B D n N
  cac : CacL W B C sz L kb
  kl : KL W mv L gb
  ne : ∀ g, gb = some g → kb ≠ some g
structure Box (W : World) (box : Nat) (kk : Ky) (kb : Option Nat) : Prop where
  blk : Blk W box 30 (bytesOf 32 kk).toArray
  ne : kb ≠ some box
theorem PSt.next {w0 : World} {B D C sz n : Nat} {W W' : World} {L : List Ky} {mv : Value} {N : Nat} {kb gb : Option Nat} (h : PSt w0 B D C sz n W L mv N kb gb) (ho : Only (fun k => k = D) W W') (hn : NumAt W' B D n (N + 1)) : PSt w0 B D C sz n W' L mv (N + 1) kb gb := by
  obtain ⟨cs, hb⟩ := h.num.blk
  refine ⟨Only.below_trans h.bel ho h.le (fun k hk => hk ▸ h.num.ge), Nat.le_trans h.le ho.size, hn, h.cac.apart ho (fun g hg => ⟨_, cs, hg ▸ hb, by decide⟩), h.kl.only ho (fun g hg e => ?_), h.ne⟩
  obtain ⟨_, _, _, _, _, _, h4⟩ := h.kl
  obtain ⟨cs', hb'⟩ := h4 g hg
  exact Blk.ne_ hb' hb (by decide) e
theorem PSt.below {w0 : World} {B D C sz n : Nat} {W W' : World} {L : List Ky} {mv : Value} {N : Nat} {kb gb : Option Nat} (h : PSt w0 B D C sz n W L mv N kb gb) (hb : Below W.heap.size W W') : PSt w0 B D C sz n W' L mv N kb gb :=
  ⟨h.bel.trans (hb.mono h.le), Nat.le_trans h.le hb.size, h.num.below_ h.le hb, h.cac.below hb, h.kl.below hb, h.ne⟩
theorem Box.only {S : Nat → Prop} {W W' : World} {box : Nat} {kk : Ky} {kb : Option Nat} (h : Box W box kk kb) (ho : Only S W W') (hS : ¬ S box) : Box W' box kk kb := ⟨h.blk.only ho hS, h.ne⟩
theorem Box.below {W W' : World} {box : Nat} {kk : Ky} {kb : Option Nat} (h : Box W box kk kb) (hb : Below W.heap.size W W') : Box W' box kk kb := ⟨h.blk.below hb h.blk.lt, h.ne⟩
/-- the reference's new list lies, and the cache takes its step -/
theorem PSt.step {w0 : World} {B D C sz n : Nat} {W W5 W6 : World} {L L' : List Ky} {mv v' : Value} {N : Nat} {kb gb gb' : Option Nat} {v : Value} {e : Ending} {box : Nat} {kk : Ky} (h : PSt w0 B D C sz n W L mv N kb gb) (hx : Box W box kk kb) (hb : Below W.heap.size W W5)
    (hk : KL W5 v' L' gb') (hg : gb' = gb ∨ ∀ g, gb' = some g → W.heap.size ≤ g) (hp : CPost W5 B C sz kb L' v e W6) : e = .returned v ∧ ∃ kb', PSt w0 B D C sz n W6 L' v' N kb' gb' ∧ Box W6 box kk kb' := by
  obtain ⟨he, ho, kb', hkb, hc⟩ := hp
  have hne : ∀ g, gb' = some g → kb ≠ some g := fun g hg' => by
    rcases hg with rfl | hg
    · exact h.ne g hg'
    · intro e2
      have := h.cac.kb_lt g e2
      have := hg g hg'
      omega
  have h5 := h.below hb
  have hx5 := hx.below hb
  obtain ⟨cs, hbn⟩ := h5.num.blk
  have hge : B ≤ W5.heap.size := h5.le
  refine ⟨he, kb', ⟨Only.below_trans h5.bel ho hge CFoot.ge, Nat.le_trans hge ho.size, h5.num.only ho hge CFoot.ge (h5.cac.foot_ne hbn (by decide) (h5.cac.kb_ne hbn (by decide))), hc, hk.only ho (fun g hg' => ?_), fun g hg' => ?_⟩, ?_⟩
  · obtain ⟨_, _, _, _, _, _, h4⟩ := hk
    obtain ⟨cs', hb'⟩ := h4 g hg'
    exact h5.cac.foot_ne hb' (by decide) (hne g hg')
  · rcases hkb with rfl | hkb
    · exact hne g hg'
    · intro e2
      have h1 := hkb g e2
      have h2 := hk.lt g hg'
      omega
  · refine ⟨hx5.blk.only ho (h5.cac.foot_ne hx5.blk (by decide) hx5.ne), ?_⟩
    rcases hkb with rfl | hkb
    · exact hx5.ne
    · intro e2
      have h1 := hkb _ e2
      have h2 := hx5.blk.lt
      omega
def PRel (w0 : World) (B D C sz n : Nat) (mv : Value) (N : Nat) (W : World) : Prop := ∃ L kb gb, PSt w0 B D C sz n W L mv N kb gb
end Go.Proofs.Ytegdchlbmjokmaa
