/- Encode and Decode in one form for success and failure. -/
import Derived.Test.YtnhggaghidbniaaBlkK
namespace Go.Proofs.Ytnhggaghidbniaa
open Go.RowKit
set_option linter.unusedVariables false
set_option linter.unusedSimpArgs false
open Wir ShaW Sha

/-- the error of a decoding, 0: none; and what is decoded -/
def decE (b : List UInt8) : Int := match Wir.decode b with | .ok _ => 0 | .error c => c
def decB (b : List UInt8) : Hd × List (List UInt8) := match Wir.decode b with | .ok p => p | .error _ => (hdPart [] 0, [])
def EncSee (w : World) (x : Hd) (txs : List (List UInt8)) (e : Ending) (w' : World) : Prop :=
  Below w.heap.size w w' ∧ ∃ v, e = .returned (.tuple #[v, .int .i64 (encE x txs)]) ∧ SeeB w' v (encB x txs)
def DecSee (w : World) (b : List UInt8) (e : Ending) (w' : World) : Prop :=
  Below w.heap.size w w' ∧ ∃ tv, e = .returned (.tuple #[blV (decB b).1 tv, .int .i64 (decE b)]) ∧ TxsAt w' tv (decB b).2
theorem encSee_of {w w' : World} {x : Hd} {txs : List (List UInt8)} {e : Ending} (h : EncOut w x txs e w') : EncSee w x txs e w' := by
  obtain ⟨hb, ⟨h0, v, rfl, ho⟩ | ⟨h0, rfl⟩⟩ := h
  · exact ⟨hb, v, by rw [h0], by unfold encB; rw [if_pos h0]; exact ho.see⟩
  · exact ⟨hb, _, rfl, by unfold encB; rw [if_neg h0]; exact SeeB.nil _⟩
theorem decSee_of {w w' : World} {b : List UInt8} {e : Ending} (h : DecOut w b e w') : DecSee w b e w' := by
  obtain ⟨hb, h⟩ := h
  refine ⟨hb, ?_⟩
  unfold decB decE
  cases hd : Wir.decode b with
  | error c =>
    rw [hd] at h
    exact ⟨.slice none 0 0, h, TxsAt.nil _⟩
  | ok p =>
    obtain ⟨x, txs⟩ := p
    rw [hd] at h
    obtain ⟨tv, h1, h2⟩ := h
    exact ⟨tv, h1, h2⟩
theorem benc_see (w : World) (x : Hd) (hx : x.fits) (tv : Value) (txs : List (List UInt8)) (ht : TxsAt w tv txs) (hsum : txs.length ≤ 512 → txsSum txs ≤ 999999000) :
    Calls Try.prog 11 #[blV x tv] w (EncSee w x txs) := (benc_any w x hx tv txs ht hsum).mono fun _ _ h => encSee_of h
theorem renc_see (w : World) (x : Hd) (hx : x.fits) (tv : Value) (txs : List (List UInt8)) (ht : TxsAt w tv txs) (hsum : txs.length ≤ 512 → txsSum txs ≤ 999999000) :
    Calls Try.prog 12 #[blV x tv] w (EncSee w x txs) := (renc_any w x hx tv txs ht hsum).mono fun _ _ h => encSee_of h
theorem bdec_see (w : World) (v : Value) (b : List UInt8) (hs : SeeB w v b) (hb : b.length ≤ 1073741824) :
    Calls Try.prog 14 #[v] w (DecSee w b) := (bdecode_any w v b hs hb).mono fun _ _ h => decSee_of h
theorem rdec_see (w : World) (v : Value) (b : List UInt8) (hs : SeeB w v b) (hb : b.length ≤ 1073741824) :
    Calls Try.prog 17 #[v] w (DecSee w b) := (rdecode_any w v b hs hb).mono fun _ _ h => decSee_of h
theorem decE_ok {b : List UInt8} {x : Hd} {txs : List (List UInt8)} (h : Wir.decode b = .ok (x, txs)) : decE b = 0 ∧ decB b = (x, txs) := by unfold decE decB; rw [h]; exact ⟨rfl, rfl⟩
end Go.Proofs.Ytnhggaghidbniaa
