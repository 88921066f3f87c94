/- The cache: its calls, said of its keys alone; Keys. -/
import Derived.Test.YtegdchlbmjokmaaCacW9
import Derived.Outline
namespace Go.Proofs.Ytegdchlbmjokmaa
open Go.RowKit
set_option linter.unusedVariables false
set_option linter.unusedSimpArgs false
open Lnk

theorem cpush_any (w : World) (B C sz : Nat) (L : List Ky) (kb : Option Nat) (k : Ky) (h : CacL w B C sz L kb) (hB : B ≤ w.heap.size) :
    Calls Try.prog 12 #[.pointer (some ⟨C, 0, none⟩), keyV k] w (CPost w B C sz kb (pushK L sz k) (.bool (!hasK L k))) := by
  have hl := h.len
  obtain ⟨D, rv, r, kv, K, fv, F, M, Dm, T, hc, rfl, rfl⟩ := h
  cases hh : hasK (T.map CT.k) k with
  | true =>
    obtain ⟨i, p, h1, h2, h3⟩ := idxK_some hh
    rw [List.getElem?_map] at h2
    obtain ⟨t, ht, rfl⟩ := Option.map_eq_some_iff.1 h2
    have e : pushK (T.map CT.k) sz k = lackT (T.map CT.k) i ++ [k] := by unfold pushK; rw [h1]
    rw [e]
    exact push_there w B C sz T D rv r kv K fv F M Dm hc hB k i t ht h3
  | false =>
    have hno : (T.any fun t => keyEq t.k k) = false := by rw [any_map_k]; exact hh
    have e : pushK (T.map CT.k) sz k = ((T.map CT.k) ++ [k]).drop (if (T.map CT.k).length < sz then 0 else 1) := by unfold pushK; rw [idxK_none hh]
    rw [List.length_map] at hl e
    by_cases hr : T.length < sz
    · rw [if_pos hr] at e
      rw [e]
      exact push_room w B C sz T D rv r kv K fv F M Dm hc hB k hno hr
    · rw [if_neg hr] at e
      rw [e]
      cases hT : T with
      | nil =>
        subst hT
        simp at hr
        exact push_zero w B C sz [] D rv r kv K fv F M Dm hc hB k hno hr
      | cons t0 T' =>
        subst hT
        have := push_full w B C sz (t0 :: T') D rv r kv K fv F M Dm hc hB k t0 rfl hno (by omega)
        have e2 : lackT (t0 :: T') 0 = T' := rfl
        rw [e2] at this
        exact this
theorem cremove_any (w : World) (B C sz : Nat) (L : List Ky) (kb : Option Nat) (k : Ky) (h : CacL w B C sz L kb) (hB : B ≤ w.heap.size) :
    Calls Try.prog 20 #[.pointer (some ⟨C, 0, none⟩), keyV k] w (CPost w B C sz kb (dropK L k) (.bool (hasK L k))) := by
  have h0 := h
  obtain ⟨D, rv, r, kv, K, fv, F, M, Dm, T, hc, rfl, rfl⟩ := h
  cases hh : hasK (T.map CT.k) k with
  | true =>
    obtain ⟨i, p, h1, h2, h3⟩ := idxK_some hh
    rw [List.getElem?_map] at h2
    obtain ⟨t, ht, rfl⟩ := Option.map_eq_some_iff.1 h2
    have e : dropK (T.map CT.k) k = lackT (T.map CT.k) i := by unfold dropK; rw [h1]
    rw [e]
    refine (crem_yes w B C sz T D rv r kv K fv F M Dm hc hB i t ht k h3).mono ?_
    rintro e w' ⟨h4, h5, rv', r', fv', Dm', h6⟩
    exact ⟨h4, h5.mono (fun g hg => hg.mono), kv.ownBlock, .inl rfl, D, rv', r', kv, K, fv', _, M, Dm', lackT T i, h6, lackT_map _ _ _, rfl⟩
  | false =>
    have hno : (T.any fun t => keyEq t.k k) = false := by rw [any_map_k]; exact hh
    have e : dropK (T.map CT.k) k = T.map CT.k := by unfold dropK; rw [idxK_none hh]
    rw [e]
    refine (crem_no w B C sz T ⟨D, rv, r, kv, K, fv, F, M, Dm, hc⟩ k hno).mono ?_
    rintro e w' ⟨h4, h5⟩
    exact ⟨h4, Only.of_below _ h5, kv.ownBlock, .inl rfl, h0.below h5⟩
theorem chasL_any (w : World) (B C sz : Nat) (L : List Ky) (kb : Option Nat) (k : Ky) (h : CacL w B C sz L kb) :
    Calls Try.prog 17 #[.pointer (some ⟨C, 0, none⟩), keyV k] w fun e w' => e = .returned (.bool (hasK L k)) ∧ Below w.heap.size w w' := by
  obtain ⟨T, h1, rfl⟩ := h.cac
  have := chas_any w B C sz T h1 k
  rw [any_map_k] at this
  exact this
theorem clenL_any (w : World) (B C sz : Nat) (L : List Ky) (kb : Option Nat) (h : CacL w B C sz L kb) :
    Calls Try.prog 14 #[.pointer (some ⟨C, 0, none⟩)] w fun e w' => e = .returned (.int .i64 (L.length : Int)) ∧ w = w' := by
  obtain ⟨T, h1, rfl⟩ := h.cac
  rw [List.length_map]
  exact clen_any w B C sz T h1
theorem cnewL_any (w : World) (B : Nat) (hB : B ≤ w.heap.size) (n : Int) (hn : -9223372036854775808 ≤ n ∧ n ≤ 9223372036854775807) :
    Calls Try.prog 10 #[.int .i64 n] w fun e w' => ∃ C, e = .returned (.pointer (some ⟨C, 0, none⟩)) ∧ Below w.heap.size w w' ∧ CacL w' B C (clampC n) [] none ∧ w.heap.size ≤ C := by
  refine (cnew_any w B hB n hn).mono ?_
  rintro e w' ⟨C, h1, h2, ⟨D, rv, r, K, F, M, Dm, h3⟩, h4⟩
  exact ⟨C, h1, h2, ⟨D, rv, r, .slice none 0 0, K, .slice none 0 0, F, M, Dm, [], h3, rfl, rfl⟩, h4⟩
/-- a new list of the keys ps -/
def KeysOwn (w w' : World) (ps : List Ky) (v : Value) : Prop := ∃ A c, v = .slice A ps.length c ∧ Below w.heap.size w w' ∧ w'.ownsRow w.heap.size 30 32 v ps.length (keysOf ps)
set_option maxRecDepth 100000 in
set_option maxHeartbeats 2000000 in
attribute [local go_sem ↓] wp_load_k in
theorem ckeys_any (w : World) (B C sz : Nat) (L : List Ky) (kb : Option Nat) (h : CacL w B C sz L kb) (hB : B ≤ w.heap.size) :
    Calls Try.prog 16 #[.pointer (some ⟨C, 0, none⟩)] w fun e w' => ∃ v, e = .returned v ∧ KeysOwn w w' L v := by
  obtain ⟨i0, hi0, hz0, hz1, hz2⟩ := info_parts key_info
  have hl := h.len
  obtain ⟨D, rv, r, kv, K, fv, F, M, Dm, T, hc, rfl, rfl⟩ := h
  rw [List.length_map] at hl
  obtain ⟨hl1, hl2⟩ := hl
  have x1 : w.cell? ⟨C, 1, none⟩ = some (.pointer (some ⟨D, 0, none⟩)) := hc.blk.cell 1
  have HI0 := Lib.hid hi0
  have HZ0 := Lib.hid hz0
  have HV := Lib.hid (lvals_any w B D rv r hc.lis hB (by rw [hc.el, List.length_map]; omega))
  have HC := Lib.hid hc
  clear hi0 hz0 hc
  go_enter Try.func16, Try.ntmps16
  go_wp2_with fail
  refine HV.out.mono ?_
  rintro e w1 ⟨v1, rfl, hb1, ho1⟩
  have hc1 := HC.out.below hb1
  obtain ⟨A1, c1, rfl⟩ := own_form ho1
  have hle : (r.E.map Prod.snd) = T.map (fun t => (t.i : Int)) := by rw [HC.out.el, List.map_map]; rfl
  obtain ⟨n, hn⟩ : ∃ n, T.length = n := ⟨_, rfl⟩
  have hll : (r.E.map Prod.snd).length = n := by rw [hle, List.length_map, hn]
  have ho1 : w1.ownsRow w.heap.size 3 1 (.slice A1 (r.E.map Prod.snd).length c1) (r.E.map Prod.snd).length ((r.E.map Prod.snd).map (Value.int .i64)) := ho1
  rw [hll] at ho1 ⊢
  rw [hle] at ho1
  have hcells : ∀ j t, T[j]? = some t → ∃ g, A1 = some ⟨g, 0, none⟩ ∧ w1.cell? ⟨g, j, none⟩ = some (.int .i64 (t.i : Int)) := by
    intro j t ht
    have hj : j < T.length := (List.getElem?_eq_some_iff.1 ht).1
    obtain ⟨g, cap, hv, _, _⟩ := ho1.form (by omega)
    injection hv with h1 h2 h3
    subst h1 h3
    refine ⟨g, rfl, ?_⟩
    rw [ho1.cellAt j (by omega), List.getElem?_map, List.getElem?_map, ht]
    rfl
  have hncap : n ≤ c1 ∧ c1 ≤ 9223372036854775807 := by
    rcases ho1.2 with ⟨h1, h2⟩ | ⟨g, cap, cur, h1, _, _, h2, h3, _⟩
    · injection h1 with _ h4 h5; omega
    · injection h1 with _ _ h5; subst h5; unfold maxLen at h3; exact ⟨h2, h3⟩
  have HCE := Lib.hid hcells
  have HC1 := Lib.hid hc1
  have HB1 := Lib.hid hb1
  have HN := Lib.hid hn
  have hz1' := hb1.size
  rw [hn] at hl1
  clear hcells hc1 hb1 ho1 hle hll HV x1 hn
  go_wp2_with fail
  go_loopw [3, 14] (fun v i wr => ∃ j : Nat, j ≤ n ∧ i = .int .i64 (j : Int) ∧ Below w1.heap.size w1 wr ∧ (∃ A c, v = .slice A j c) ∧ wr.ownsRow w1.heap.size 30 32 v j (keysOf ((T.map CT.k).take j))) (fun _ i _ => n - (intOf i).toNat)
  case atStart => exact ⟨0, by omega, rfl, Below.refl _ _, ⟨none, 0, rfl⟩, World.ownsRow_nil _ _ _ _⟩
  case round =>
    obtain ⟨j, hj, rfl, hbr, ⟨A2, c2, rfl⟩, ho2⟩ := hrel
    have hzr := hbr.size
    have HBR := Lib.hid hbr
    have HO2 := Lib.hid ho2
    rcases Nat.lt_or_ge j n with hlt | hge
    · have hjT : j < T.length := by have := HN.out; omega
      obtain ⟨t, ht⟩ : ∃ t, T[j]? = some t := ⟨T[j], List.getElem?_eq_getElem hjT⟩
      obtain ⟨g, rfl, hcg⟩ := HCE.out j t ht
      have hki : K[t.i]? = some t.k := HC.out.inv.key t (List.mem_of_getElem? ht)
      have hil : t.i < K.length := (List.getElem?_eq_some_iff.1 hki).1
      have hKl : K.length ≤ 1024 := by have := HC.out.inv.le; omega
      have hcr := HC1.out.below hbr
      obtain ⟨gk, ck, hkv, _, _⟩ := hcr.ks.form (by omega)
      have hkr := hcr.ks
      have x1 : wr.cell? ⟨g, j, none⟩ = some (.int .i64 (t.i : Int)) := (hbr.cell (p := ⟨g, j, none⟩) (World.block_lt_of_cell? w1 _ hcg)).trans hcg
      have x2 : wr.cell? ⟨C, 2, none⟩ = some (.slice (some ⟨gk, 0, none⟩) K.length ck) := by rw [← hkv]; exact hcr.blk.cell 2
      rw [hkv] at hkr
      have q3 : ∀ j u, (bytesOf 32 t.k)[j]? = some u → wr.cell? ((⟨gk, t.i * 32, none⟩ : Addr).add j) = some u := fun j u hu => by
        have h1 := (KeysAt.of_own hkr).at_
        obtain ⟨g, o, hA, h2⟩ := h1
        have hA' := hA (by omega)
        injection hA' with hA'
        injection hA' with e1 e2
        subst e1 e2
        obtain ⟨kk, hkk, h3⟩ := h2 t.i hil
        rw [hki] at hkk
        injection hkk with hkk
        subst hkk
        rw [Nat.zero_add] at h3
        exact h3 j u hu
      have q1 := keyOk_mk q3
      have q2 := loadK_eq q3
      have hjn : (j : Int) < n := by omega
      have HKR := Lib.hid (key_reads wr t.k)
      have HO3 := Lib.hid (owns_below ho2 ((Below.refl wr.heap.size wr).alloc (Nat.le_refl _) (.cells (bytesOf 32 t.k).toArray 30)))
      have HB3 := Lib.hid (hbr.alloc hzr (.cells (bytesOf 32 t.k).toArray 30))
      have htk : keysOf ((T.map CT.k).take j) ++ keysOf [t.k] = keysOf ((T.map CT.k).take (j + 1)) := by
        rw [← keysOf_append, ← take_snoc (x := t.k) (by rw [List.getElem?_map, ht]; rfl)]
      have HTK := Lib.hid htk
      clear hcg hki hcr hkr hkv q3 ht ho2 hbr htk
      go_wp2_with (first
        | (refine wpList_buildSlice rfl 28 30 1 _ rfl (bytesOf 32 t.k).toArray i0 _ Try.underlying28 HI0.out HZ0.out (by rw [hz1]; omega) (by rw [hz1]; omega) (by simp only [List.map_toArray, List.map_cons, List.map_nil]; exact key_fill t.k i0 hz1) ?_)
        | (at_builtin
           refine wpList_append_any _ rfl (.tmp 18) (.tmp 26) _ rfl w1.heap.size 30 i0 _ 32 32 Try.underlying28 HI0.out HZ0.out hz1 hz2 rfl (by omega) _ j _ rfl
             HO3.out _ _ 1 1 _ rfl HKR.out (keysOf_oneCell _) (by unfold maxLen; omega) (by omega) (by rw [World.size_alloc]; omega) ?_
           intro v3 w3 ho3 hg3 hat3
           rw [HTK.out] at ho3
           have hb3 : Below w1.heap.size w1 w3 := HB3.out.grown hg3 (by rw [World.size_alloc]; omega) (fun g e => (HO3.out.lt g e).1)
           obtain ⟨A3, c3, rfl⟩ := own_form ho3
           have HO4 := Lib.hid ho3
           have HB4 := Lib.hid hb3
           clear ho3 hg3 hat3 hb3))
      go_roundw
      case rel => exact ⟨j + 1, by omega, by go_num, HB4.out, ⟨A3, c3, rfl⟩, HO4.out⟩
      case measure => simp [intOf]; omega
    · obtain rfl : j = n := by omega
      have hge' : ¬ (j : Int) < j := by omega
      clear hbr ho2
      go_wp2_with fail
      go_ret
      have ho5 := HO2.out
      have hnn := HN.out
      rw [List.take_of_length_le (by rw [List.length_map]; omega)] at ho5
      have hl5 : (T.map CT.k).length = j := by rw [List.length_map]; exact hnn
      refine ⟨_, rfl, A2, c2, by rw [hl5]; rfl, HB1.out.trans (HBR.out.mono hz1'), ?_⟩
      rw [hl5]
      exact owns_base2 ho5 hz1'
end Go.Proofs.Ytegdchlbmjokmaa
