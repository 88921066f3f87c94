/- The program's store by the reference's plain store: the calls. -/
import Derived.Test.YtnihkjhejjeepaaSlbM
namespace Go.Proofs.Ytnihkjhejjeepaa
open Go.RowKit
set_option linter.unusedVariables false
set_option linter.unusedSimpArgs false
open ShaW Sha

def SlR (w : World) (B C : Nat) (m : RSt) : Prop := ∃ sv L size free, SlAt w B C m.most L sv size free ∧ RelS L free m ∧ size = cntP m.pl
theorem SlR.below {w w' : World} {B C : Nat} {m : RSt} (h : SlR w B C m) (hb : Below w.heap.size w w') : SlR w' B C m := by
  obtain ⟨sv, L, size, free, h1, h2⟩ := h
  exact ⟨sv, L, size, free, h1.below hb, h2⟩
theorem SlR.apart {S : Nat → Prop} {w w' : World} {B C : Nat} {m : RSt} (h : SlR w B C m) (ho : Only S w w') (hS : ∀ g, S g → ∃ t cs, Blk w g t cs ∧ t ∉ [71, 75, 5, 3]) : SlR w' B C m := by
  obtain ⟨sv, L, size, free, h1, h2⟩ := h
  exact ⟨sv, L, size, free, h1.apart ho hS, h2⟩
theorem SlR.num {w w' : World} {B C D n N : Nat} {m : RSt} (h : SlR w B C m) (hn : NumAt w B D n N) (ho : Only (fun k => k = D) w w') : SlR w' B C m := by
  obtain ⟨_, _, _, _, hh, _⟩ := hn
  exact h.apart ho (fun g hg => ⟨_, _, hg.symm ▸ hh, by decide⟩)
theorem SlR.lt {w : World} {B C : Nat} {m : RSt} (h : SlR w B C m) : C < w.heap.size := by
  obtain ⟨sv, L, size, free, h1, h2⟩ := h
  exact h1.blk.lt
theorem rnew_any (w : World) (B : Nat) (hB : B ≤ w.heap.size) (n : Int) (hn : -9223372036854775808 ≤ n ∧ n ≤ 9223372036854775807) :
    Calls Try.prog 11 #[.int .i64 n] w fun e w' => e = .returned (.pointer (some ⟨w.heap.size, 0, none⟩)) ∧ Below w.heap.size w w' ∧ w'.heap.size = w.heap.size + 1 ∧ SlR w' B w.heap.size ⟨clampS n, [], []⟩ := by
  refine (snew_any w B hB n hn).mono ?_
  rintro e w' ⟨rfl, h1, h2, h3⟩
  exact ⟨rfl, h1, h2, _, _, _, _, h3, ⟨rfl, fun i r p h => by simp at h, rfl⟩, rfl⟩
theorem rlen_any (w : World) (B C : Nat) (m : RSt) (h : SlR w B C m) :
    Calls Try.prog 19 #[.pointer (some ⟨C, 0, none⟩)] w fun e w' => e = .returned (.int .i64 (cntP m.pl : Int)) ∧ w = w' := by
  obtain ⟨sv, L, size, free, h1, h2, rfl⟩ := h
  exact slen_any w B C _ L sv _ free h1
theorem rbytes_any (w : World) (B C : Nat) (m : RSt) (k : Nat) (h : SlR w B C m) (hw : WfR m k) (hk : k ≤ 2000) :
    Calls Try.prog 21 #[.pointer (some ⟨C, 0, none⟩)] w fun e w' => e = .returned (.int .i64 (sizeP m.pl : Int)) ∧ Below w.heap.size w w' := by
  obtain ⟨sv, L, size, free, h1, h2, rfl⟩ := h
  rw [← sizeS_rel L m.pl h2.len h2.at_]
  refine sbytes_any w B C _ L sv _ free h1 (by have := h2.len; have := hw.len; omega) (fun r hr => ?_)
  obtain ⟨i, hi⟩ := List.getElem?_of_mem hr
  obtain ⟨p, hp, _, h4, h5⟩ := h2.place hi
  cases hf : p.full with
  | true => rw [(h4 hf).1]; have := (hw.ents p (List.mem_of_getElem? hp)).1; omega
  | false => rw [(h5 hf).2]; exact Nat.zero_le _
theorem rrem_no (w : World) (B C : Nat) (m : RSt) (k : Nat) (h : SlR w B C m) (hw : WfR m k) (hk : k ≤ 2000) (s u : Int) (hno : m.ok s u = false) :
    Calls Try.prog 18 #[.pointer (some ⟨C, 0, none⟩), hdl s u] w fun e w' => e = .returned (.bool false) ∧ Below w.heap.size w w' := by
  obtain ⟨sv, L, size, free, h1, h2, rfl⟩ := h
  exact srem_no w B C _ L sv _ free h1 (by have := h2.len; have := hw.len; omega) s u ((h2.has s u).trans hno)
theorem rget_no (w : World) (B C : Nat) (m : RSt) (k : Nat) (h : SlR w B C m) (hw : WfR m k) (hk : k ≤ 2000) (s u : Int) (hno : m.ok s u = false) :
    Calls Try.prog 15 #[.pointer (some ⟨C, 0, none⟩), hdl s u] w fun e w' => e = .returned (.tuple #[entV ent0 (.slice none 0 0) (.slice none 0 0), .bool false]) ∧ Below w.heap.size w w' := by
  obtain ⟨sv, L, size, free, h1, h2, rfl⟩ := h
  exact sget_no w B C _ L sv _ free h1 (by have := h2.len; have := hw.len; omega) s u ((h2.has s u).trans hno)
theorem rget_ok (w : World) (B C : Nat) (m : RSt) (k : Nat) (h : SlR w B C m) (hw : WfR m k) (hk : k ≤ 2000) (i : Nat) (u : Int) (p : Plc) (hp : m.pl[i]? = some p) (hf : p.full = true) (hu : (p.uses : Int) - 1 = u) :
    Calls Try.prog 15 #[.pointer (some ⟨C, 0, none⟩), hdl (i : Int) u] w (GetPost w p.e) := by
  obtain ⟨sv, L, size, free, h1, h2, rfl⟩ := h
  obtain ⟨r, hr, h3, h4, h5⟩ := h2.slot hp
  have h6 := h4 hf
  have hs := hw.ents p (List.mem_of_getElem? hp)
  have e : u = ((r.s.use : Nat) : Int) := by omega
  rw [e, ← h6.1]
  exact sget_yes w B C _ L sv _ free h1 (by have := h2.len; have := hw.len; omega) i r.s.use r hr rfl (h3.trans hf) (by rw [h6.1]; have := hs.1; omega) (by rw [h6.1]; have := hs.2; omega)
theorem RelS.sub {L : List SRow} {free : Int} {m : RSt} (h : RelS L free m) {i : Nat} {r' : SRow} {p' : Plc} (hok : PlOk r' p') : (L.set i r').length = (m.pl.set i p').length ∧ ∀ (j : Nat) r p, (L.set i r')[j]? = some r → (m.pl.set i p')[j]? = some p → PlOk r p := by
  refine ⟨by rw [List.length_set, List.length_set]; exact h.len, fun j r p h1 h2 => ?_⟩
  by_cases hj : i = j
  · subst hj
    have l1 : i < L.length := by have := (List.getElem?_eq_some_iff.1 h1).1; rwa [List.length_set] at this
    rw [List.getElem?_set_self l1] at h1
    rw [List.getElem?_set_self (by rw [← h.len]; exact l1)] at h2
    injection h1 with h1
    injection h2 with h2
    subst h1 h2
    exact hok
  · rw [List.getElem?_set_ne hj] at h1 h2
    exact h.at_ j r p h1 h2
theorem rrem_ok (w : World) (B C : Nat) (m : RSt) (k : Nat) (h : SlR w B C m) (hB : B ≤ w.heap.size) (hw : WfR m k) (hk : k ≤ 2000) (i : Nat) (u : Int) (p : Plc) (hp : m.pl[i]? = some p) (hf : p.full = true) (hu : (p.uses : Int) - 1 = u) :
    Calls Try.prog 18 #[.pointer (some ⟨C, 0, none⟩), hdl (i : Int) u] w fun e w' => e = .returned (.bool true) ∧ Only (SFoot w B) w w' ∧ SlR w' B C (m.rem i) := by
  obtain ⟨sv, L, size, free, h1, h2, rfl⟩ := h
  obtain ⟨r, hr, h3, h4, h5⟩ := h2.slot hp
  have h6 := h4 hf
  have hup := hw.uses p (List.mem_of_getElem? hp)
  have e : u = ((r.s.use : Nat) : Int) := by omega
  have hc := cnt_rem hp hf
  have hL := h2.len
  have hwl := hw.len
  have hb := h2.ch.bd
  have hcl := cntP_len m.pl
  rw [e]
  refine (srem_yes w B C _ L sv _ free h1 hB (by omega) (by omega) (by omega) (by omega) i r.s.use r hr rfl (by omega) (h3.trans hf)).mono ?_
  rintro ed w' ⟨rfl, ho, sv', hs'⟩
  refine ⟨rfl, ho, sv', _, _, _, hs', ⟨?_, ?_, ?_⟩, ?_⟩
  · exact (h2.sub (i := i) (r' := freeRow (r.s.use + 1) free) (p' := ⟨false, ((m.pl[i]?).getD plc0).uses, ent0⟩) ⟨rfl, fun h => (by cases h), fun _ => ⟨by rw [hp]; exact h6.2, rfl⟩⟩).1
  · exact (h2.sub (i := i) (r' := freeRow (r.s.use + 1) free) (p' := ⟨false, ((m.pl[i]?).getD plc0).uses, ent0⟩) ⟨rfl, fun h => (by cases h), fun _ => ⟨by rw [hp]; exact h6.2, rfl⟩⟩).2
  · show Chain _ _ (m.fr ++ [i]).reverse
    rw [List.reverse_append]
    refine ⟨rfl, _, List.getElem?_set_self (List.getElem?_eq_some_iff.1 hr).1, ?_⟩
    show Chain _ free m.fr.reverse
    refine h2.ch.set _ (fun hi => ?_)
    obtain ⟨q, hq, hqf⟩ := hw.free i (List.mem_reverse.1 hi)
    rw [hp] at hq
    injection hq with hq
    rw [hq, hqf] at hf
    cases hf
  · omega
theorem radd_full (w : World) (B C : Nat) (m : RSt) (k : Nat) (h : SlR w B C m) (hB : B ≤ w.heap.size) (hw : WfR m k) (hk : k ≤ 2000) (e : Ent) (rv pv : Value) (he : EntRd w e rv pv) (hs : Small e) (hf : m.full = true) :
    Calls Try.prog 14 #[.pointer (some ⟨C, 0, none⟩), entV e rv pv] w fun ed w' => ed = .returned (.tuple #[hdl 0 0, .bool false]) ∧ Below w.heap.size w w' := by
  obtain ⟨sv, L, size, free, h1, h2, rfl⟩ := h
  have hc : m.most ≤ cntP m.pl := by simpa [RSt.full] using hf
  have h3 := hw.cnt
  have hL := h2.len
  have hwl := hw.len
  have hb := h2.ch.bd
  have hm := hw.most
  exact sadd_full w B C _ L sv _ free h1 hB (by omega) (by omega) (by omega) (by omega) e rv pv he (by have := hs.1; omega) (by have := hs.2; omega) (by omega)
theorem RelS.one {L : List SRow} {free : Int} {m : RSt} (h : RelS L free m) (hn : m.fr = []) : RelS (L ++ [freeRow 0 0]) free ⟨m.most, m.pl1, m.fr⟩ := by
  have e : m.pl1 = m.pl ++ [plc0] := by unfold RSt.pl1; rw [if_pos hn]
  rw [e]
  refine ⟨by simp [h.len], fun i r p h1 h2 => ?_, by have h3 := h.ch; rw [hn] at h3 ⊢; exact h3⟩
  rw [List.getElem?_append] at h1
  rw [List.getElem?_append, ← h.len] at h2
  split at h1
  · rw [if_pos ‹_›] at h2; exact h.at_ i r p h1 h2
  · rw [if_neg ‹_›] at h2
    cases hi : i - L.length with
    | zero =>
      rw [hi] at h1 h2
      injection h1 with h1
      injection h2 with h2
      rw [← h1, ← h2]
      exact ⟨rfl, fun h => (by cases h), fun _ => ⟨rfl, rfl⟩⟩
    | succ j => rw [hi] at h1; cases h1
theorem radd_ok (w : World) (B C : Nat) (m : RSt) (k : Nat) (h : SlR w B C m) (hB : B ≤ w.heap.size) (hw : WfR m k) (hk : k ≤ 2000) (e : Ent) (rv pv : Value) (he : EntRd w e rv pv) (hs : Small e) (hf : m.full = false) :
    Calls Try.prog 14 #[.pointer (some ⟨C, 0, none⟩), entV e rv pv] w fun ed w' => ed = .returned (.tuple #[hdl (m.slot : Int) (m.use : Int), .bool true]) ∧ Only (SFoot w B) w w' ∧ SlR w' B C (m.add e) := by
  obtain ⟨sv, L, size, free, h1, h2, rfl⟩ := h
  have hc : ¬ m.most ≤ cntP m.pl := by simpa [RSt.full] using hf
  have h3 := hw.cnt
  have hL := h2.len
  have hwl := hw.len
  have hb := h2.ch.bd
  have hm := hw.most
  obtain ⟨p, hp, hpf, hpu, hpk⟩ := RSt.slot_at hw
  have hcn := cnt_add hw e
  cases hg : m.fr.getLast? with
  | none =>
    have hn : m.fr = [] := by simpa using hg
    have hsl : m.slot = L.length := by unfold RSt.slot; rw [hg, hL]; rfl
    have h0 := h2.ch
    rw [hn] at h0
    refine (sadd_new w B C _ L sv _ free h1 hB (by omega) (by omega) (by omega) (by omega) e rv pv he (by have := hs.1; omega) (by have := hs.2; omega) (by omega) h0).mono ?_
    have hR := h2.one hn
    rintro ed w' ⟨rfl, ho, sv', rv', pv', hs', _⟩
    have hu0 : m.use = 0 := by
      rw [← hpu]
      have e : m.pl1 = m.pl ++ [plc0] := by unfold RSt.pl1; rw [if_pos hn]
      rw [e, hsl, hL] at hp
      simp at hp
      rw [← hp]
      rfl
    refine ⟨by rw [hsl, hu0]; rfl, ho, sv', _, _, _, hs', ?_, hcn.symm⟩
    have hsub := hR.sub (i := m.slot) (r' := fullRow e (freeRow 0 0) rv' pv') (p' := ⟨true, m.use + 1, e⟩) ⟨rfl, fun _ => ⟨rfl, by rw [hu0]; rfl⟩, fun h => by cases h⟩
    refine ⟨by rw [← hsl]; exact hsub.1, fun j r q a b => hsub.2 j r q (by rw [hsl]; exact a) b, ?_⟩
    show Chain _ free m.fr.dropLast.reverse
    rw [hn]
    exact h0
  | some i =>
    have hne : m.fr ≠ [] := by intro e; rw [e] at hg; cases hg
    have hsl : m.slot = i := by unfold RSt.slot; rw [hg]; rfl
    have he1 : m.pl1 = m.pl := by unfold RSt.pl1; rw [if_neg hne]
    have hsp := getLast_split hg
    have h0 := h2.ch
    rw [hsp, List.reverse_append] at h0
    obtain ⟨hfi, r, hr, hch⟩ := h0
    rw [hsl, he1] at hp
    have hrp := h2.at_ i r p hr hp
    have hch' : Chain L r.s.next m.fr.dropLast.reverse := hch
    have hbn := hch'.bd
    have hru := (hrp.2.2 hpf).1
    refine (sadd_reuse w B C _ L sv _ free h1 hB (by omega) (by omega) (by omega) (by omega) e rv pv he (by have := hs.1; omega) (by have := hs.2; omega) (by omega) i r hr hfi (by omega) (by omega)).mono ?_
    rintro ed w' ⟨rfl, ho, sv', rv', pv', hs', _⟩
    refine ⟨by rw [hsl, ← hpu, ← hru], ho, sv', _, _, _, hs', ?_, hcn.symm⟩
    have hsub := h2.sub (i := i) (r' := fullRow e r rv' pv') (p' := ⟨true, m.use + 1, e⟩) ⟨rfl, fun _ => ⟨rfl, by show r.s.use + 1 = _; rw [hru, hpu]⟩, fun h => by cases h⟩
    refine ⟨?_, fun j q q' a b => hsub.2 j q q' a ?_, ?_⟩
    · show _ = (m.pl1.set m.slot _).length
      rw [hsl, he1]; exact hsub.1
    · have b' : (m.pl1.set m.slot ⟨true, m.use + 1, e⟩)[j]? = some q' := b
      rw [hsl, he1] at b'; exact b'
    · show Chain _ _ m.fr.dropLast.reverse
      refine hch'.set _ (fun hi => ?_)
      exact (drop_not_slot hw (List.mem_reverse.1 hi)).2 hsl.symm
end Go.Proofs.Ytnihkjhejjeepaa
