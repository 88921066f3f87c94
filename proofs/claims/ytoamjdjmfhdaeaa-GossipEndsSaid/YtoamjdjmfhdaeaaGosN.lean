/- GossipEnds: the walk. -/
import Derived.Test.YtoamjdjmfhdaeaaGosH
import Derived.Great.BuildSlice
namespace Go.Proofs.Ytoamjdjmfhdaeaa
open Go.RowKit
set_option linter.unusedVariables false
set_option linter.unusedSimpArgs false
open ShaW Sha

/-! ### plainly: what was sent is lacked no more -/
theorem hasK_app (a b : List Ky) (k : Ky) : hasK (a ++ b) k = (hasK a k || hasK b k) := by unfold hasK; rw [List.any_append]
theorem filter_keys {L : List EItem} (hd : L.Pairwise (fun x y => keyEq x.e.key y.e.key = false)) (j : Nat) : L.filter (fun x => !hasK (entKeys (L.take j)) x.e.key) = L.drop j := by
  have h1 : (L.take j).filter (fun x => !hasK (entKeys (L.take j)) x.e.key) = [] := by
    rw [List.filter_eq_nil_iff]
    intro x hx
    have : hasK (entKeys (L.take j)) x.e.key = true := List.any_eq_true.2 ⟨x.e.key, List.mem_map.2 ⟨x, hx, rfl⟩, keyEq_refl _⟩
    rw [this]
    simp
  have h2 : (L.drop j).filter (fun x => !hasK (entKeys (L.take j)) x.e.key) = L.drop j := by
    rw [List.filter_eq_self]
    intro y hy
    rw [← List.take_append_drop j L] at hd
    have h3 := (List.pairwise_append.1 hd).2.2
    have : hasK (entKeys (L.take j)) y.e.key = false := by
      rw [← Bool.not_eq_true]
      intro h
      obtain ⟨kk, hk, he⟩ := List.any_eq_true.1 h
      obtain ⟨x, hx, rfl⟩ := List.mem_map.1 hk
      rw [h3 x hx y hy] at he
      cases he
    rw [this]
    rfl
  conv => lhs; rw [← List.take_append_drop j L]
  rw [List.filter_append]
  rw [show List.take j (List.take j L ++ List.drop j L) = L.take j by rw [List.take_append_drop], h1, h2, List.nil_append]
theorem leftE_more {l : List EItem} (hd : l.Pairwise (fun x y => keyEq x.e.key y.e.key = false)) (p : Int) (ps : List Ky) (j : Nat) : leftE p (ps ++ (entKeys (leftE p ps l)).take j) l = (leftE p ps l).drop j := by
  have h1 : (leftE p ps l).Pairwise (fun x y => keyEq x.e.key y.e.key = false) := hd.filter _
  rw [← filter_keys h1 j]
  have e1 : (entKeys (leftE p ps l)).take j = entKeys ((leftE p ps l).take j) := by unfold entKeys; rw [List.map_take]
  rw [e1]
  obtain ⟨qs, hq⟩ : ∃ qs, entKeys ((leftE p ps l).take j) = qs := ⟨_, rfl⟩
  rw [hq]
  unfold leftE
  rw [List.filter_filter]
  refine List.filter_congr fun x _ => ?_
  unfold lackE
  rw [hasK_app]
  cases hasK ps x.e.key <;> cases hasK qs x.e.key <;> simp

theorem reads_keys {w : World} {A : Option Addr} {n c : Nat} {L : List Ky} (h : KeysAt w A n c L) : Reads w w.heap.size 32 A n (keysOf L) := by
  obtain ⟨k1, k2, k3, g, o, hA, hcl⟩ := h
  refine ⟨by rw [keysOf_len]; omega, fun hn => ?_⟩
  have e := hA hn
  have hl : 0 < (keysOf L).length := by rw [keysOf_len]; omega
  refine ⟨_, e, ?_, fun j u hu => by rw [add_flat]; exact hcl j u hu⟩
  exact World.block_lt_of_cell? w ⟨g, o + 0, none⟩ (hcl 0 _ (List.getElem?_eq_getElem hl))
theorem reads_key {w : World} {g : Nat} {k : Ky} (h : Blk w g 41 (bytesOf 32 k).toArray) : Reads w w.heap.size 32 (some ⟨g, 0, none⟩) 1 (keysOf [k]) := by
  rw [keysOf_one]
  exact ⟨by rw [bytesOf_length], fun _ => ⟨_, rfl, h.lt, blk_key h⟩⟩
theorem empty_own (w : World) : (w.alloc (.cells #[] 41)).ownsRow w.heap.size 41 32 (.slice (some ⟨w.heap.size, 0, none⟩) 0 0) 0 [] :=
  ⟨rfl, .inr ⟨w.heap.size, 0, #[], rfl, Nat.le_refl _, heap_alloc_new _ _, Nat.le_refl _, Nat.zero_le _, rfl, rfl⟩⟩
def IsKy (v : Value) : Prop := ∃ k : Ky, v = keyV k
theorem isKy (k : Ky) : IsKy (keyV k) := ⟨k, rfl⟩
theorem wp_build_key (dst : Option Tmp) (x : Operand) (ty : TypeId) (pos : String) (after : Array Edge) (guard : Option (Nat × Bool)) (a : Act) (W : World) (K : Act → World → Prop) (Q : Exit → Act → World → Prop) (h : IsKy (a.eval x)) :
    Oper.wp Try.prog { dst := dst, op := .buildSlice 23 1 #[(0, x)], type := ty, pos := pos, after := after, guard := guard } a W K Q = K (a.put dst (.slice (some ⟨W.heap.size, 0, none⟩) 1 1)) (W.alloc (.cells (a.eval x).cells 41)) := by
  obtain ⟨k, hx⟩ := h
  obtain ⟨i0, hi0, hz0, hz1, hz2⟩ := info_parts key_info
  have hf : Instr.fill (fun i => some (i * i0.size, i0.size)) ((Array.range (1 * i0.size)).map ((Value.agg (Array.replicate 32 (.int .u8 0))).cells[· % (Value.agg (Array.replicate 32 (.int .u8 0))).cells.size]!)) (#[(0, keyV k)].toList) = some (bytesOf 32 k).toArray := key_fill k i0 hz1
  have hrun := run_buildSlice (P := Try.prog) W 23 41 1 #[(0, keyV k)] (bytesOf 32 k).toArray i0 _ Try.underlying23 hi0 hz0 (by rw [hz1]; omega) (by rw [hz1]; omega) hf
  unfold Oper.wp execOp
  simp only [hx, Sem.run_bind, List.map_toArray, List.map_cons, List.map_nil, hrun, Result.andThen_ok]
  rfl
/-- the keys sent so far -/
def SentAt (w wr : World) (s : Value) (qs : List Ky) : Prop := Below w.heap.size w wr ∧ ∃ A c, s = .slice A qs.length c ∧ KeysAt wr A qs.length c qs
theorem ite_yes {c : Prop} [Decidable c] {a b : Prop} (hc : c) (h : a) : ite c a b := by rw [if_pos hc]; exact h
theorem run_keySame (w : World) (k : Ky) : (binOp .neq 41 (keyV k) (keyV k)).run Try.prog w = .ok (.bool false) w := by
  have h := run_keyNe w k k
  rw [keyEq_refl] at h
  exact h

set_option maxRecDepth 100000 in
set_option maxHeartbeats 8000000 in
attribute [local go_sem ↓] wp_load_k wp_build_key in
theorem gossipEnds_any (w : World) (ao : Option Addr) (n cap : Nat) (f : Nat → Int) (hI : IntsAt w w.heap.size ao n cap f) (peer : Int) (hp1 : -9223372036854775808 ≤ peer ∧ peer ≤ 9223372036854775807) :
    Calls Try.prog 5 #[.slice ao n cap, .int .i64 peer] w fun e w' => e = .returned (.bool true) ∧ Below w.heap.size w w' := by
  have hn63 : n ≤ 9223372036854775807 := Nat.le_trans hI.1 hI.2.1
  obtain ⟨b, hb⟩ : ∃ b, decide (160 < (n : Int)) = b := ⟨_, rfl⟩
  obtain ⟨i0, hi0, hz0, hz1, hz2⟩ := info_parts key_info
  have HI0 := Lib.hid hi0
  have HZ0 := Lib.hid hz0
  have HI := Lib.hid hI
  have HL : Hid (∀ (g : Nat) (t : TypeId), g = w.heap.size → Calls Try.prog 6 #[.slice (some ⟨g, 0, none⟩) 1 1] (w.alloc (.cells #[.slice ao n cap] t)) fun e w' => e = .returned (.bool b) ∧ w.alloc (.cells #[.slice ao n cap] t) = w') :=
    Lib.hid (fun g t hg => long_any w ao n cap g t hg hn63 b hb)
  obtain ⟨z, hz⟩ : ∃ z, placeN peer 5 = z := ⟨_, rfl⟩
  have hz5 : z < 5 := by rw [← hz]; exact placeN_lt _ (by omega)
  have HPL : Hid (∀ W, Calls Try.prog 18 #[.int .i64 peer, .int .i64 5] W fun e w' => e = .returned (.int .i64 (z : Int)) ∧ W = w') := Lib.hid (fun W => by
    have := place_any W peer 5 hp1.1 hp1.2 (by omega) (by omega)
    rw [hz] at this
    exact this)
  have g1 : IntKind.i64.wrap (1 + (z : Int)) = 1 + (z : Int) := IntWalk.i64_in _ (by omega)
  clear hI hb hp1 hz hi0 hz0
  go_enter Try.func5, Try.ntmps5
  cases b with
  | true =>
    go_wp2_with fail
    refine (HL.out _ _ rfl).mono ?_
    rintro e w1 ⟨rfl, rfl⟩
    generalize hw1 : World.alloc _ _ = w1
    have HB1 : Hid (Below w.heap.size w w1) := Lib.hid (by rw [← hw1]; exact (Below.refl _ _).alloc (Nat.le_refl _) _)
    clear hw1 HL
    go_wp2_with fail
    refine (known_any w1).mono ?_
    rintro e wz ⟨rfl, hbz⟩
    have HBZ := Lib.hid (HB1.out.trans (hbz.mono HB1.out.size))
    clear hbz
    go_wp2_with fail
    go_ret
    exact ⟨rfl, HBZ.out⟩
  | false =>
    go_wp2_with fail
    refine (HL.out _ _ rfl).mono ?_
    rintro e u1 ⟨rfl, rfl⟩
    generalize hu1 : World.alloc _ _ = u1
    have HU1 : Hid (Below w.heap.size w u1) := Lib.hid (by rw [← hu1]; exact (Below.refl _ _).alloc (Nat.le_refl _) _)
    clear hu1 HL
    go_wp2_with fail
    refine (scene_any u1 ao n cap f ((HI.out.below HU1.out).more HU1.out.size)).mono ?_
    rintro e u2 ⟨B, m, d, l, B', m', d', ps, rfl, hb2, he2, hk2, hm, hm', hg2, hd2⟩
    have HU2 := Lib.hid (HU1.out.trans (hb2.mono HU1.out.size))
    have HE := Lib.hid he2
    have HK := Lib.hid hk2
    have HG := Lib.hid hg2
    have HD := Lib.hid hd2
    clear hb2 he2 hk2 hg2 hd2 HI
    go_wp2_with fail
    refine (HPL.out _).mono ?_
    rintro e uz ⟨rfl, rfl⟩
    go_wp2_with fail
    obtain ⟨p, hp⟩ : ∃ p : Int, 1 + (z : Int) = p := ⟨_, rfl⟩
    rw [hp] at *
    obtain ⟨L, hL⟩ : ∃ L, leftE p ps l = L := ⟨_, rfl⟩
    have hpn : ∀ x ∈ l, x.e.peers.length ≤ 17592186043904 := fun x hx => by have := (HG.out x hx).pn; omega
    have hrn : ∀ x ∈ l, x.e.rn ≤ 140737488351232 := fun x hx => by have := (HG.out x hx).rn; omega
    have HLL : Hid (∀ j, leftE p (ps ++ (entKeys L).take j) l = L.drop j) := Lib.hid (fun j => by rw [← hL]; exact leftE_more HD.out p ps j)
    have HGL : Hid (∀ x ∈ L, Good x.e) := Lib.hid (fun x hx => HG.out x (leftE_sub (by rw [hL]; exact hx)))
    have hM10 : L.length ≤ 10 := by rw [← hL]; have := leftE_len p ps l; have := HE.out.1; omega
    have CN : Hid (∀ W A n c j, Below u2.heap.size u2 W → KeysAt W A n c (ps ++ (entKeys L).take j) → n ≤ 977343669106 → Calls Try.prog 13 #[.slice B m d, .int .i64 p, .slice A n c] W fun e w' => NextOut W w' e (L.drop j).head?) := Lib.hid (fun W A n c j hb hk hn => by
      have := gNext_any W A n c _ hk hn B m d l (HE.out.below hb) (by omega) hpn hrn p
      rw [HLL.out j] at this
      exact this)
    have CL : Hid (∀ W A n c j, Below u2.heap.size u2 W → KeysAt W A n c (ps ++ (entKeys L).take j) → n ≤ 977343669106 → Calls Try.prog 16 #[.slice B m d, .int .i64 p, .slice A n c] W fun e w' => ∃ v, e = .returned v ∧ KeysOut W w' v (entKeys (L.drop j))) := Lib.hid (fun W A n c j hb hk hn => by
      have := gLeft_any W A n c _ hk hn B m d l (HE.out.below hb) (by omega) hpn p
      rw [HLL.out j] at this
      exact this)
    have hps : ps.length = m' := HK.out.1
    clear hpn hrn hL HE HG HD HPL g1 hz5
    refine (CL.out u2 B' m' d' 0 (Below.refl _ _) (by simpa using HK.out) (by omega)).mono ?_
    rintro e w3 ⟨v3, rfl, hb3, ho3⟩
    rw [List.drop_zero] at ho3
    obtain ⟨A3, d3, rfl, hk3⟩ := ho3.form
    have HU3 := Lib.hid hb3
    have HK3 := Lib.hid hk3
    have HS3 := Lib.hid (HK.out.below hb3)
    have HW3 := Lib.hid (HU2.out.trans (hb3.mono HU2.out.size))
    obtain ⟨M, hM⟩ : ∃ M, (entKeys L).length = M := ⟨_, rfl⟩
    have hML : L.length = M := by rw [← hM, entKeys_len]
    rw [hML] at hM10
    rw [hM] at HK3 ⊢
    have HM := Lib.hid hM
    have HMM := Lib.hid hML
    clear hb3 ho3 hk3 HK hM hML
    go_wp2_with fail
    go_loopw [6, 30] (fun s i wr => ∃ j : Nat, j ≤ M ∧ i = .int .i64 (j : Int) ∧ SentAt w3 wr s (ps ++ (entKeys L).take j)) (fun _ i _ => M - (intOf i).toNat)
    case atStart =>
      refine ⟨0, by omega, rfl, Below.refl _ _, B', d', ?_, ?_⟩
      · simp [hps]
      · have := HS3.out
        rw [← hps] at this
        simpa using this
    case round =>
      obtain ⟨j, hj, rfl, hbr, A6, c6, rfl, hkr⟩ := hrel
      obtain ⟨qs, hqs⟩ : ∃ qs, ps ++ (entKeys L).take j = qs := ⟨_, rfl⟩
      have hq16 : qs.length ≤ 16 := by rw [← hqs, List.length_append, List.length_take]; omega
      obtain ⟨nq, hnq⟩ : ∃ nq, qs.length = nq := ⟨_, rfl⟩
      rw [hqs, hnq] at hkr
      rw [hqs]
      rw [hnq] at hq16 ⊢
      have CNj : Hid (∀ W A c, Below u2.heap.size u2 W → KeysAt W A nq c qs → Calls Try.prog 13 #[.slice B m d, .int .i64 p, .slice A nq c] W fun e w' => NextOut W w' e (L.drop j).head?) := Lib.hid (fun W A c hb hk => CN.out W A nq c j hb (by rw [hqs]; exact hk) (by omega))
      have CLj : Hid (∀ W A c, Below u2.heap.size u2 W → KeysAt W A nq c qs → Calls Try.prog 16 #[.slice B m d, .int .i64 p, .slice A nq c] W fun e w' => ∃ v, e = .returned v ∧ KeysOut W w' v (entKeys (L.drop j))) := Lib.hid (fun W A c hb hk => CL.out W A nq c j hb (by rw [hqs]; exact hk) (by omega))
      have HQS := Lib.hid hqs
      have HNQ := Lib.hid hnq
      have HKR := Lib.hid hkr
      have HBR := Lib.hid hbr
      have hzr := hbr.size
      clear hbr hkr hqs hnq CN CL
      rcases Nat.lt_or_ge j M with hlt | hge
      · have hlt' : (j : Int) < M := by omega
        have hj0 : (0 : Int) ≤ j := by omega
        obtain ⟨g, o, hA, hat⟩ := HK3.out.at_
        obtain rfl := hA (by omega)
        obtain ⟨k, hkk, hcell⟩ := hat j hlt
        have hjL : j < L.length := by rw [HMM.out]; exact hlt
        have hkx : (L[j]).e.key = k := by
          have h1 : (entKeys L)[j]? = some (L[j]).e.key := by unfold entKeys; rw [List.getElem?_map, List.getElem?_eq_getElem hjL]; rfl
          rw [h1] at hkk
          exact Option.some.inj hkk
        have hhd : (L.drop j).head? = some L[j] := by rw [List.head?_drop, List.getElem?_eq_getElem hjL]
        have hgd := HGL.out _ (List.getElem_mem hjL)
        obtain ⟨x, hx⟩ : ∃ x, L[j] = x := ⟨_, rfl⟩
        rw [hx] at hkx hhd hgd
        rw [hhd] at CNj
        have hsk : sha x.e.rn x.e.raw = k := by rw [← hgd.key]; exact hkx
        have hrn8 := hgd.rn
        have HTK : Hid ((entKeys L).take (j + 1) = (entKeys L).take j ++ [k]) := Lib.hid (by
          obtain ⟨h1, h2⟩ := List.getElem?_eq_some_iff.1 hkk
          rw [List.take_succ_eq_append_getElem h1, h2])
        have hc2 : ∀ i u, (bytesOf 32 k)[i]? = some u → wr.cell? ((⟨g, o + j * 32, none⟩ : Addr).add i) = some u := fun i u hu => (HBR.out.cell (p := (⟨g, o + j * 32, none⟩ : Addr).add i) (World.block_lt_of_cell? w3 _ (hcell i u hu))).trans (hcell i u hu)
        have q1 := keyOk_mk hc2
        have q2 := loadK_eq hc2
        obtain ⟨rn, hrn⟩ : ∃ rn, x.e.rn = rn := ⟨_, rfl⟩
        obtain ⟨rf, hrf⟩ : ∃ rf, x.e.raw = rf := ⟨_, rfl⟩
        have CNx : Hid (∀ W A c, Below u2.heap.size u2 W → KeysAt W A nq c qs → Calls Try.prog 13 #[.slice B m d, .int .i64 p, .slice A nq c] W fun e w' => ∃ A c, e = .returned (.tuple #[.slice A rn c, .bool true]) ∧ Below W.heap.size W w' ∧ Reads w' w'.heap.size 1 A rn (bytesOf rn rf)) := Lib.hid (fun W A c hb hk => by
          have := CNj.out W A c hb hk
          rw [← hrn, ← hrf]
          exact this)
        rw [hrn, hrf] at hsk
        rw [hrn] at hrn8
        clear hA hat hcell hc2 hjL hkx hhd hgd hx hkk hrn hrf CNj CLj HK3 HS3
        go_upto_region 8 with (refine wpList_store_rowTo rfl 41 (.tmp 8) (.tmp 33) rfl rfl wr.heap.size (bytesOf 32 k).toArray rfl rfl _ _ (heap_alloc_new _ _) (by rw [keyV_size]; kernel_rfl) (by rw [keyV_size]; kernel_rfl) (keyV_one _) ?_)
        generalize hwc : World.setRow _ _ _ = wc
        have hbk : Blk wc wr.heap.size 41 (bytesOf 32 k).toArray := by rw [← hwc]; exact (setRow_same _ _ _ _ _ (heap_alloc_new _ _))
        have hbc : Below wr.heap.size wr wc := by rw [← hwc]; exact below_setRow ((Below.refl _ _).alloc (Nat.le_refl _) _) (Nat.le_refl _) _
        obtain ⟨kb, hkb⟩ : ∃ kb, wr.heap.size = kb := ⟨_, rfl⟩
        have HKR' := Lib.hid (HKR.out.below hbc)
        have HBC0 := Lib.hid (HBR.out.trans (hbc.mono hzr))
        rw [hkb] at hbk ⊢
        have HBK := Lib.hid hbk
        have hzc := HBC0.out.size
        have HUC := Lib.hid (HU3.out.trans (HBC0.out.mono HU3.out.size))
        clear hwc hbk hbc q1 q2 HKR hkb
        go_wp2_with fail
        refine (CNx.out wc A6 c6 HUC.out HKR'.out).mono ?_
        rintro e wn ⟨Ar, cr, rfl, hbn, hrn⟩
        have HRR := Lib.hid hrn
        have HKn := Lib.hid (HKR'.out.below hbn)
        have HBn := Lib.hid (HBC0.out.trans (hbn.mono HBC0.out.size))
        have HBKn := Lib.hid (HBK.out.below hbn HBK.out.lt)
        clear hbn hrn HKR' HBC0 HBK HUC CNx
        go_upto_region 9 with (fail)
        have hu := Try.underlying41
        have hik := key_size k
        have rrn := blk_range HBKn.out
        have hlk := HBKn.out.lt
        have hcs := run_keySame
        have HSH : Hid (∀ W, Below wn.heap.size wn W → Calls Try.prog 19 #[.slice Ar rn cr] W fun e w' => e = .returned (keyV k) ∧ Below W.heap.size W w') := Lib.hid (fun W hW => by
          rw [← hsk]
          exact rsha_any W Ar rn cr rf ((HRR.out.below hW).more hW.size) (by omega))
        have HBC := Lib.hid (Below.refl wn.heap.size wn)
        refine wp_region_noPanic ?_
        refine wp_region_held_drew (S := fun w' => w'.rangeAt kb 0 (bytesOf 32 k)) (by kernel_rfl) rrn (fun hHeld => ?_)
        refine wpAnyH_take (i := 0) (oi := ⟨some 41, _, _, _, _, _⟩) (v := ?_) rfl (by kernel_rfl) (by kernel_rfl) (by kernel_rfl) (fun _ _ _ h => h) (Or.inl ⟨by kernel_rfl, ?_⟩) hHeld ?_
        rotate_left
        · intro w hSw
          (try dsimp only at hSw)
          go_simp
          all_goals (with_reducible rfl)
        conv => arg 8; simp only [Act.put, List.setIfInBounds_toArray, List.set_cons_zero, List.set_cons_succ]
        refine wpAnyH_take (i := 1) (oi := ⟨some 42, _, _, _, _, _⟩) (v := ?_) rfl (by kernel_rfl) (by kernel_rfl) (by kernel_rfl) (fun _ _ _ h => h) (Or.inl ⟨by kernel_rfl, ?_⟩) hHeld ?_
        rotate_left
        · intro w hSw
          (try dsimp only at hSw)
          go_simp
          all_goals (with_reducible rfl)
        conv => arg 8; simp only [Act.put, List.setIfInBounds_toArray, List.set_cons_zero, List.set_cons_succ]
        refine wpAnyH_take (i := 2) (oi := ⟨some 43, _, _, _, _, _⟩) (v := ?_) rfl (by kernel_rfl) (by kernel_rfl) (by kernel_rfl) (fun _ _ _ h => h) (Or.inl ⟨by kernel_rfl, ?_⟩) hHeld ?_
        rotate_left
        · intro w hSw
          (try dsimp only at hSw)
          go_simp
          all_goals (with_reducible rfl)
        conv => arg 8; simp only [Act.put, List.setIfInBounds_toArray, List.set_cons_zero, List.set_cons_succ]
        refine wpAnyH_take (i := 3) (oi := ⟨some 44, _, _, _, _, _⟩) (v := ?_) rfl (by kernel_rfl) (by kernel_rfl) (by kernel_rfl) (fun _ _ _ h => h) (Or.inl ⟨by kernel_rfl, ?_⟩) hHeld ?_
        rotate_left
        · intro w hSw
          (try dsimp only at hSw)
          go_simp
          all_goals (with_reducible rfl)
        conv => arg 8; simp only [Act.put, List.setIfInBounds_toArray, List.set_cons_zero, List.set_cons_succ]
        refine wpAnyH_take (i := 5) (oi := ⟨some 46, _, _, _, _, _⟩) (v := _) rfl (by kernel_rfl) (by kernel_rfl) (by kernel_rfl) (fun _ _ _ h => h) (yieldsIf_load_mid (S := fun w' => w'.rangeAt kb 0 (bytesOf 32 k)) (by kernel_rfl) _ _ rfl _ _ rfl _ _ (fun w hSw => hSw) hu rfl hik) hHeld ?_
        conv => arg 8; simp only [Act.put, List.setIfInBounds_toArray, List.set_cons_zero, List.set_cons_succ]
        refine wpAnyH_ready (rs := [4]) (by kernel_rfl) (by simp) ?_
        refine AllReadyH.cons (o := ⟨some 45, _, _, _, _, _⟩) rfl (fun K hK => ?_) AllReadyH.nil
        refine ite_yes (by kernel_rfl) ?_
        go_simp
        go_at_call 19
        (with_reducible refine (HSH.out _ (by repeat (first | (with_reducible exact HBC.out) | (with_reducible refine belowDrewR ?_) | (with_reducible refine below_dnR ?_ _) | (with_reducible refine below_al ?_ _)))).mono ?_)
        rintro e w1 ⟨rfl, hb9⟩
        have hBEL : Below wn.heap.size wn w1 := below_step (a := wn) (by repeat (first | (with_reducible exact HBC.out) | (with_reducible refine belowDrewR ?_) | (with_reducible refine below_dnR ?_ _) | (with_reducible refine below_al ?_ _))) hb9
        have HBC := Lib.hid hBEL
        clear hb9 hBEL
        refine hK.out _ _ (range_below (a := wn) HBC.out hlk rrn) (fun hHeld => ?_)
        clear hK K
        conv => arg 8; simp only [Act.put, List.setIfInBounds_toArray, List.set_cons_zero, List.set_cons_succ]
        refine wpAnyH_take (i := 6) (oi := ⟨some 47, _, _, _, _, _⟩) (v := ?_) rfl (by kernel_rfl) (by kernel_rfl) (by kernel_rfl) (fun _ _ _ h => h) (Or.inl ⟨by kernel_rfl, ?_⟩) hHeld ?_
        rotate_left
        · intro w hSw
          (try dsimp only at hSw)
          go_simp
          all_goals (with_reducible rfl)
        conv => arg 8; simp only [Act.put, List.setIfInBounds_toArray, List.set_cons_zero, List.set_cons_succ]
        refine wpAnyH_take (i := 7) (oi := ⟨some 48, _, _, _, _, _⟩) (v := ?_) rfl (by kernel_rfl) (by kernel_rfl) (by kernel_rfl) (fun _ _ _ h => h) (Or.inl ⟨by kernel_rfl, ?_⟩) hHeld ?_
        rotate_left
        · intro w hSw
          (try dsimp only at hSw)
          go_simp
          all_goals (with_reducible rfl)
        conv => arg 8; simp only [Act.put, List.setIfInBounds_toArray, List.set_cons_zero, List.set_cons_succ]
        refine wpAnyH_done (by kernel_rfl) ?_ _
        refine NoPanic.normal ?_
        have HK1 := Lib.hid (HKn.out.below HBC.out)
        have HB1 := Lib.hid (HBn.out.trans (HBC.out.mono HBn.out.size))
        have HK4 := Lib.hid (HBKn.out.below HBC.out HBKn.out.lt)
        clear hcs rrn hlk hik HBC HKn HBn HBKn HSH HRR hsk hHeld
        go_upto_region 11 with (fail)
        have HRL : Hid (∀ W, Below w1.heap.size w1 W → Reads W w1.heap.size 32 A6 nq (keysOf qs)) := Lib.hid (fun W hW => (reads_keys HK1.out).below hW)
        have hu := Try.underlying41
        have hik := key_size k
        have rra := blk_range HK4.out
        have hlk := HK4.out.lt
        have q3 := isKy k
        refine wp_region_noPanic ?_
        refine wp_region_held_drew (S := fun w' => w'.rangeAt kb 0 (bytesOf 32 k)) (by kernel_rfl) rra (fun hHeld => ?_)
        refine wpAnyH_take (i := 1) (oi := ⟨some 50, _, _, _, _, _⟩) (v := ?_) rfl (by kernel_rfl) (by kernel_rfl) (by kernel_rfl) (fun _ _ _ h => h) (Or.inl ⟨by kernel_rfl, ?_⟩) hHeld ?_
        rotate_left
        · intro w hSw
          (try dsimp only at hSw)
          go_simp
          all_goals (with_reducible rfl)
        conv => arg 8; simp only [Act.put, List.setIfInBounds_toArray, List.set_cons_zero, List.set_cons_succ]
        refine wpAnyH_take (i := 3) (oi := ⟨some 52, _, _, _, _, _⟩) (v := _) rfl (by kernel_rfl) (by kernel_rfl) (by kernel_rfl) (fun _ _ _ h => h) (yieldsIf_load_mid (S := fun w' => w'.rangeAt kb 0 (bytesOf 32 k)) (by kernel_rfl) _ _ rfl _ _ rfl _ _ (fun w hSw => hSw) hu rfl hik) hHeld ?_
        conv => arg 8; simp only [Act.put, List.setIfInBounds_toArray, List.set_cons_zero, List.set_cons_succ]
        generalize hW : World.drew _ = wd at hHeld ⊢
        have hbd : Below w1.heap.size w1 wd := by rw [← hW]; exact belowDrewR (Below.refl _ _)
        have HBD := Lib.hid hbd
        clear hbd hW
        refine wpAnyH_ready (rs := [0, 4]) (by kernel_rfl) (by simp) ?_
        refine (AllReadyH.cons (o := ⟨some 49, _, _, _, _, _⟩) rfl (fun K hK => ?_) (AllReadyH.cons (o := ⟨some 53, _, _, _, _, _⟩) rfl (fun K hK => ?_) AllReadyH.nil))
        · go_simp
          refine hK.out _ _ (by exact range_below (a := w1) (by first | exact HBD.out | exact below_al HBD.out _ | exact hb1x) hlk rra) (fun hHeld => ?_)
          clear hK K
          conv => arg 8; simp only [Act.put, List.setIfInBounds_toArray, List.set_cons_zero, List.set_cons_succ]
          generalize hW : World.alloc _ _ = v1w at hHeld ⊢
          have hbx : Below wd.heap.size wd v1w := by rw [← hW]; exact (Below.refl _ _).alloc (Nat.le_refl _) _
          have hox : v1w.ownsRow w1.heap.size 41 32 (.slice (some ⟨wd.heap.size, 0, none⟩) 0 0) 0 [] := by rw [← hW]; exact owns_base2 (empty_own _) HBD.out.size
          have HOv1w := Lib.hid hox
          clear hox
          have HBv1w := Lib.hid (HBD.out.trans (hbx.mono HBD.out.size))
          clear hbx hW
          refine wpAnyH_ready (rs := [2, 4]) (by kernel_rfl) (by simp) ?_
          refine (AllReadyH.cons (o := ⟨some 51, _, _, _, _, _⟩) rfl (fun K hK => ?_) (AllReadyH.cons (o := ⟨some 53, _, _, _, _, _⟩) rfl (fun K hK => ?_) AllReadyH.nil))
          · refine step_append_any _ (by rfl) (.tmp 49) (.tmp 50) _ (by rfl) w1.heap.size 41 i0 _ 32 32 Try.underlying23 HI0.out HZ0.out hz1 hz2 rfl (by omega) (.slice (some ⟨wd.heap.size, 0, none⟩) 0 0) (0) ([]) (by rfl) HOv1w.out _ A6 (nq) c6 (keysOf qs) (by rfl) (HRL.out _ HBv1w.out) (keysOf_oneCell _) (by unfold maxLen; omega) (by omega) HBv1w.out.size ?_
            intro v3 v2w ho hg hat
            rw [Nat.zero_add, List.nil_append] at ho
            obtain ⟨Av2w, cv2w, rfl⟩ := own_form ho
            have hb1x : Below w1.heap.size w1 v2w := HBv1w.out.grown hg HBv1w.out.size (fun g e => (HOv1w.out.lt g e).1)
            have HOv2w := Lib.hid ho
            have HBv2w := Lib.hid hb1x
            clear ho hg hat hb1x
            refine hK.out _ _ (by exact range_below (a := w1) (by first | exact HBv2w.out | exact below_al HBv2w.out _ | exact hb1x) hlk rra) (fun hHeld => ?_)
            clear hK K
            conv => arg 8; simp only [Act.put, List.setIfInBounds_toArray, List.set_cons_zero, List.set_cons_succ]
            refine wpAnyH_ready (rs := [4]) (by kernel_rfl) (by simp) ?_
            refine (AllReadyH.cons (o := ⟨some 53, _, _, _, _, _⟩) rfl (fun K hK => ?_) AllReadyH.nil)
            go_simp
            refine hK.out _ _ (by exact range_below (a := w1) (by first | exact HBv2w.out | exact below_al HBv2w.out _ | exact hb1x) hlk rra) (fun hHeld => ?_)
            clear hK K
            conv => arg 8; simp only [Act.put, List.setIfInBounds_toArray, List.set_cons_zero, List.set_cons_succ]
            generalize hW : World.alloc _ _ = v3w at hHeld ⊢
            have hbx : Below v2w.heap.size v2w v3w := by rw [← hW]; exact (Below.refl _ _).alloc (Nat.le_refl _) _
            have hxx : Blk v3w v2w.heap.size 41 (bytesOf 32 k).toArray := by rw [← hW]; exact heap_alloc_new _ _
            have HXv3w := Lib.hid hxx
            clear hxx
            have HNv3w : Hid (∀ g, Value.ownBlock (.slice Av2w (nq) cv2w) = some g → g ≠ v2w.heap.size) := fun g e => Nat.ne_of_lt (HOv2w.out.lt g e).2
            have HOv3w := Lib.hid (owns_below HOv2w.out hbx)
            have HBv3w := Lib.hid (HBv2w.out.trans (hbx.mono HBv2w.out.size))
            clear hbx hW
            refine wpAnyH_ready (rs := [5]) (by kernel_rfl) (by simp) ?_
            refine (AllReadyH.cons (o := ⟨some 54, _, _, _, _, _⟩) rfl (fun K hK => ?_) AllReadyH.nil)
            refine step_append_any _ (by rfl) (.tmp 51) (.tmp 53) _ (by rfl) w1.heap.size 41 i0 _ 32 32 Try.underlying23 HI0.out HZ0.out hz1 hz2 rfl (by omega) (.slice Av2w (nq) cv2w) (nq) (keysOf qs) (by rfl) HOv3w.out _ (some ⟨v2w.heap.size, 0, none⟩) (1) 1 (keysOf [k]) (by rfl) (reads_key HXv3w.out) (keysOf_oneCell _) (by unfold maxLen; omega) (by omega) HBv3w.out.size ?_
            intro v3 v4w ho hg hat
            skip
            obtain ⟨Av4w, cv4w, rfl⟩ := own_form ho
            have hb1x : Below w1.heap.size w1 v4w := HBv3w.out.grown hg HBv3w.out.size (fun g e => (HOv3w.out.lt g e).1)
            have HOv4w := Lib.hid ho
            have HBv4w := Lib.hid hb1x
            clear ho hg hat hb1x
            refine hK.out _ _ (by exact range_below (a := w1) (by first | exact HBv4w.out | exact below_al HBv4w.out _ | exact hb1x) hlk rra) (fun hHeld => ?_)
            clear hK K
            conv => arg 8; simp only [Act.put, List.setIfInBounds_toArray, List.set_cons_zero, List.set_cons_succ]
            refine wpAnyH_take (i := 6) (oi := ⟨some 6, _, _, _, _, _⟩) (v := ?_) rfl (by kernel_rfl) (by kernel_rfl) (by kernel_rfl) (fun _ _ _ h => h) (Or.inl ⟨by kernel_rfl, ?_⟩) hHeld ?_
            rotate_left
            · intro w hSw
              (try dsimp only at hSw)
              go_simp
              all_goals (with_reducible rfl)
            conv => arg 8; simp only [Act.put, List.setIfInBounds_toArray, List.set_cons_zero, List.set_cons_succ]
            refine wpAnyH_done (by kernel_rfl) ?_ _
            refine NoPanic.normal ?_
            have hlk1 : (qs ++ [k]).length = nq + 1 := by rw [List.length_append, HNQ.out]; rfl
            have ho : v4w.ownsRow w1.heap.size 41 32 (.slice Av4w (qs ++ [k]).length cv4w) (qs ++ [k]).length (keysOf (qs ++ [k])) := by
              rw [hlk1, keysOf_append]
              exact HOv4w.out
            have HOO := Lib.hid (KeysAt.of_own ho)
            have HLK := Lib.hid hlk1
            have HBZ := Lib.hid (HB1.out.trans (HBv4w.out.mono HB1.out.size))
            clear ho hlk1 hHeld
            go_wp2_with fail
            go_roundw
            case rel =>
              refine ⟨j + 1, by omega, by go_num, HBZ.out, Av4w, cv4w, ?_, ?_⟩
              · rw [HTK.out, ← List.append_assoc, HQS.out, HLK.out]
              · rw [HTK.out, ← List.append_assoc, HQS.out]
                exact HOO.out
            case measure => simp [intOf]; omega
          · go_simp
            refine hK.out _ _ (by exact range_below (a := w1) (by first | exact HBv1w.out | exact below_al HBv1w.out _ | exact hb1x) hlk rra) (fun hHeld => ?_)
            clear hK K
            conv => arg 8; simp only [Act.put, List.setIfInBounds_toArray, List.set_cons_zero, List.set_cons_succ]
            generalize hW : World.alloc _ _ = v5w at hHeld ⊢
            have hbx : Below v1w.heap.size v1w v5w := by rw [← hW]; exact (Below.refl _ _).alloc (Nat.le_refl _) _
            have hxx : Blk v5w v1w.heap.size 41 (bytesOf 32 k).toArray := by rw [← hW]; exact heap_alloc_new _ _
            have HXv5w := Lib.hid hxx
            clear hxx
            have HNv5w : Hid (∀ g, Value.ownBlock (.slice (some ⟨wd.heap.size, 0, none⟩) 0 0) = some g → g ≠ v1w.heap.size) := fun g e => Nat.ne_of_lt (HOv1w.out.lt g e).2
            have HOv5w := Lib.hid (owns_below HOv1w.out hbx)
            have HBv5w := Lib.hid (HBv1w.out.trans (hbx.mono HBv1w.out.size))
            clear hbx hW
            refine wpAnyH_ready (rs := [2]) (by kernel_rfl) (by simp) ?_
            refine (AllReadyH.cons (o := ⟨some 51, _, _, _, _, _⟩) rfl (fun K hK => ?_) AllReadyH.nil)
            refine step_append_any _ (by rfl) (.tmp 49) (.tmp 50) _ (by rfl) w1.heap.size 41 i0 _ 32 32 Try.underlying23 HI0.out HZ0.out hz1 hz2 rfl (by omega) (.slice (some ⟨wd.heap.size, 0, none⟩) 0 0) (0) ([]) (by rfl) HOv5w.out _ A6 (nq) c6 (keysOf qs) (by rfl) (HRL.out _ HBv5w.out) (keysOf_oneCell _) (by unfold maxLen; omega) (by omega) HBv5w.out.size ?_
            intro v3 v6w ho hg hat
            rw [Nat.zero_add, List.nil_append] at ho
            obtain ⟨Av6w, cv6w, rfl⟩ := own_form ho
            have hb1x : Below w1.heap.size w1 v6w := HBv5w.out.grown hg HBv5w.out.size (fun g e => (HOv5w.out.lt g e).1)
            have HOv6w := Lib.hid ho
            have HXv6w := Lib.hid (HXv5w.out.grown hg (fun e => HNv5w.out _ e.symm rfl))
            have HNv6w : Hid (∀ g, Value.ownBlock (.slice Av6w (nq) cv6w) = some g → g ≠ v1w.heap.size) := fun g e => by
              rcases hat with h | h
              · exact HNv5w.out g (h.symm.trans e)
              · have h1 := HXv5w.out.lt; rw [e] at h; injection h with h; omega
            have HBv6w := Lib.hid hb1x
            clear ho hg hat hb1x
            refine hK.out _ _ (by exact range_below (a := w1) (by first | exact HBv6w.out | exact below_al HBv6w.out _ | exact hb1x) hlk rra) (fun hHeld => ?_)
            clear hK K
            conv => arg 8; simp only [Act.put, List.setIfInBounds_toArray, List.set_cons_zero, List.set_cons_succ]
            refine wpAnyH_ready (rs := [5]) (by kernel_rfl) (by simp) ?_
            refine (AllReadyH.cons (o := ⟨some 54, _, _, _, _, _⟩) rfl (fun K hK => ?_) AllReadyH.nil)
            refine step_append_any _ (by rfl) (.tmp 51) (.tmp 53) _ (by rfl) w1.heap.size 41 i0 _ 32 32 Try.underlying23 HI0.out HZ0.out hz1 hz2 rfl (by omega) (.slice Av6w (nq) cv6w) (nq) (keysOf qs) (by rfl) HOv6w.out _ (some ⟨v1w.heap.size, 0, none⟩) (1) 1 (keysOf [k]) (by rfl) (reads_key HXv6w.out) (keysOf_oneCell _) (by unfold maxLen; omega) (by omega) HBv6w.out.size ?_
            intro v3 v7w ho hg hat
            skip
            obtain ⟨Av7w, cv7w, rfl⟩ := own_form ho
            have hb1x : Below w1.heap.size w1 v7w := HBv6w.out.grown hg HBv6w.out.size (fun g e => (HOv6w.out.lt g e).1)
            have HOv7w := Lib.hid ho
            have HBv7w := Lib.hid hb1x
            clear ho hg hat hb1x
            refine hK.out _ _ (by exact range_below (a := w1) (by first | exact HBv7w.out | exact below_al HBv7w.out _ | exact hb1x) hlk rra) (fun hHeld => ?_)
            clear hK K
            conv => arg 8; simp only [Act.put, List.setIfInBounds_toArray, List.set_cons_zero, List.set_cons_succ]
            refine wpAnyH_take (i := 6) (oi := ⟨some 6, _, _, _, _, _⟩) (v := ?_) rfl (by kernel_rfl) (by kernel_rfl) (by kernel_rfl) (fun _ _ _ h => h) (Or.inl ⟨by kernel_rfl, ?_⟩) hHeld ?_
            rotate_left
            · intro w hSw
              (try dsimp only at hSw)
              go_simp
              all_goals (with_reducible rfl)
            conv => arg 8; simp only [Act.put, List.setIfInBounds_toArray, List.set_cons_zero, List.set_cons_succ]
            refine wpAnyH_done (by kernel_rfl) ?_ _
            refine NoPanic.normal ?_
            have hlk1 : (qs ++ [k]).length = nq + 1 := by rw [List.length_append, HNQ.out]; rfl
            have ho : v7w.ownsRow w1.heap.size 41 32 (.slice Av7w (qs ++ [k]).length cv7w) (qs ++ [k]).length (keysOf (qs ++ [k])) := by
              rw [hlk1, keysOf_append]
              exact HOv7w.out
            have HOO := Lib.hid (KeysAt.of_own ho)
            have HLK := Lib.hid hlk1
            have HBZ := Lib.hid (HB1.out.trans (HBv7w.out.mono HB1.out.size))
            clear ho hlk1 hHeld
            go_wp2_with fail
            go_roundw
            case rel =>
              refine ⟨j + 1, by omega, by go_num, HBZ.out, Av7w, cv7w, ?_, ?_⟩
              · rw [HTK.out, ← List.append_assoc, HQS.out, HLK.out]
              · rw [HTK.out, ← List.append_assoc, HQS.out]
                exact HOO.out
            case measure => simp [intOf]; omega
        · go_simp
          refine hK.out _ _ (by exact range_below (a := w1) (by first | exact HBD.out | exact below_al HBD.out _ | exact hb1x) hlk rra) (fun hHeld => ?_)
          clear hK K
          conv => arg 8; simp only [Act.put, List.setIfInBounds_toArray, List.set_cons_zero, List.set_cons_succ]
          generalize hW : World.alloc _ _ = v8w at hHeld ⊢
          have hbx : Below wd.heap.size wd v8w := by rw [← hW]; exact (Below.refl _ _).alloc (Nat.le_refl _) _
          have hxx : Blk v8w wd.heap.size 41 (bytesOf 32 k).toArray := by rw [← hW]; exact heap_alloc_new _ _
          have HXv8w := Lib.hid hxx
          clear hxx
          have HBv8w := Lib.hid (HBD.out.trans (hbx.mono HBD.out.size))
          clear hbx hW
          refine wpAnyH_ready (rs := [0]) (by kernel_rfl) (by simp) ?_
          refine (AllReadyH.cons (o := ⟨some 49, _, _, _, _, _⟩) rfl (fun K hK => ?_) AllReadyH.nil)
          go_simp
          refine hK.out _ _ (by exact range_below (a := w1) (by first | exact HBv8w.out | exact below_al HBv8w.out _ | exact hb1x) hlk rra) (fun hHeld => ?_)
          clear hK K
          conv => arg 8; simp only [Act.put, List.setIfInBounds_toArray, List.set_cons_zero, List.set_cons_succ]
          generalize hW : World.alloc _ _ = v9w at hHeld ⊢
          have hbx : Below v8w.heap.size v8w v9w := by rw [← hW]; exact (Below.refl _ _).alloc (Nat.le_refl _) _
          have hox : v9w.ownsRow w1.heap.size 41 32 (.slice (some ⟨v8w.heap.size, 0, none⟩) 0 0) 0 [] := by rw [← hW]; exact owns_base2 (empty_own _) HBv8w.out.size
          have HOv9w := Lib.hid hox
          clear hox
          have HNv9w : Hid (∀ g, Value.ownBlock (.slice (some ⟨v8w.heap.size, 0, none⟩) 0 0) = some g → g ≠ wd.heap.size) := fun g e => by have h1 := HXv8w.out.lt; injection e with e; have e : v8w.heap.size = g := e; omega
          have HXv9w := Lib.hid (HXv8w.out.below hbx HXv8w.out.lt)
          have HBv9w := Lib.hid (HBv8w.out.trans (hbx.mono HBv8w.out.size))
          clear hbx hW
          refine wpAnyH_ready (rs := [2]) (by kernel_rfl) (by simp) ?_
          refine (AllReadyH.cons (o := ⟨some 51, _, _, _, _, _⟩) rfl (fun K hK => ?_) AllReadyH.nil)
          refine step_append_any _ (by rfl) (.tmp 49) (.tmp 50) _ (by rfl) w1.heap.size 41 i0 _ 32 32 Try.underlying23 HI0.out HZ0.out hz1 hz2 rfl (by omega) (.slice (some ⟨v8w.heap.size, 0, none⟩) 0 0) (0) ([]) (by rfl) HOv9w.out _ A6 (nq) c6 (keysOf qs) (by rfl) (HRL.out _ HBv9w.out) (keysOf_oneCell _) (by unfold maxLen; omega) (by omega) HBv9w.out.size ?_
          intro v3 v10w ho hg hat
          rw [Nat.zero_add, List.nil_append] at ho
          obtain ⟨Av10w, cv10w, rfl⟩ := own_form ho
          have hb1x : Below w1.heap.size w1 v10w := HBv9w.out.grown hg HBv9w.out.size (fun g e => (HOv9w.out.lt g e).1)
          have HOv10w := Lib.hid ho
          have HXv10w := Lib.hid (HXv9w.out.grown hg (fun e => HNv9w.out _ e.symm rfl))
          have HNv10w : Hid (∀ g, Value.ownBlock (.slice Av10w (nq) cv10w) = some g → g ≠ wd.heap.size) := fun g e => by
            rcases hat with h | h
            · exact HNv9w.out g (h.symm.trans e)
            · have h1 := HXv9w.out.lt; rw [e] at h; injection h with h; omega
          have HBv10w := Lib.hid hb1x
          clear ho hg hat hb1x
          refine hK.out _ _ (by exact range_below (a := w1) (by first | exact HBv10w.out | exact below_al HBv10w.out _ | exact hb1x) hlk rra) (fun hHeld => ?_)
          clear hK K
          conv => arg 8; simp only [Act.put, List.setIfInBounds_toArray, List.set_cons_zero, List.set_cons_succ]
          refine wpAnyH_ready (rs := [5]) (by kernel_rfl) (by simp) ?_
          refine (AllReadyH.cons (o := ⟨some 54, _, _, _, _, _⟩) rfl (fun K hK => ?_) AllReadyH.nil)
          refine step_append_any _ (by rfl) (.tmp 51) (.tmp 53) _ (by rfl) w1.heap.size 41 i0 _ 32 32 Try.underlying23 HI0.out HZ0.out hz1 hz2 rfl (by omega) (.slice Av10w (nq) cv10w) (nq) (keysOf qs) (by rfl) HOv10w.out _ (some ⟨wd.heap.size, 0, none⟩) (1) 1 (keysOf [k]) (by rfl) (reads_key HXv10w.out) (keysOf_oneCell _) (by unfold maxLen; omega) (by omega) HBv10w.out.size ?_
          intro v3 v11w ho hg hat
          skip
          obtain ⟨Av11w, cv11w, rfl⟩ := own_form ho
          have hb1x : Below w1.heap.size w1 v11w := HBv10w.out.grown hg HBv10w.out.size (fun g e => (HOv10w.out.lt g e).1)
          have HOv11w := Lib.hid ho
          have HBv11w := Lib.hid hb1x
          clear ho hg hat hb1x
          refine hK.out _ _ (by exact range_below (a := w1) (by first | exact HBv11w.out | exact below_al HBv11w.out _ | exact hb1x) hlk rra) (fun hHeld => ?_)
          clear hK K
          conv => arg 8; simp only [Act.put, List.setIfInBounds_toArray, List.set_cons_zero, List.set_cons_succ]
          refine wpAnyH_take (i := 6) (oi := ⟨some 6, _, _, _, _, _⟩) (v := ?_) rfl (by kernel_rfl) (by kernel_rfl) (by kernel_rfl) (fun _ _ _ h => h) (Or.inl ⟨by kernel_rfl, ?_⟩) hHeld ?_
          rotate_left
          · intro w hSw
            (try dsimp only at hSw)
            go_simp
            all_goals (with_reducible rfl)
          conv => arg 8; simp only [Act.put, List.setIfInBounds_toArray, List.set_cons_zero, List.set_cons_succ]
          refine wpAnyH_done (by kernel_rfl) ?_ _
          refine NoPanic.normal ?_
          have hlk1 : (qs ++ [k]).length = nq + 1 := by rw [List.length_append, HNQ.out]; rfl
          have ho : v11w.ownsRow w1.heap.size 41 32 (.slice Av11w (qs ++ [k]).length cv11w) (qs ++ [k]).length (keysOf (qs ++ [k])) := by
            rw [hlk1, keysOf_append]
            exact HOv11w.out
          have HOO := Lib.hid (KeysAt.of_own ho)
          have HLK := Lib.hid hlk1
          have HBZ := Lib.hid (HB1.out.trans (HBv11w.out.mono HB1.out.size))
          clear ho hlk1 hHeld
          go_wp2_with fail
          go_roundw
          case rel =>
            refine ⟨j + 1, by omega, by go_num, HBZ.out, Av11w, cv11w, ?_, ?_⟩
            · rw [HTK.out, ← List.append_assoc, HQS.out, HLK.out]
            · rw [HTK.out, ← List.append_assoc, HQS.out]
              exact HOO.out
          case measure => simp [intOf]; omega
      · obtain rfl : j = M := by omega
        have hge' : ¬ (j : Int) < j := by omega
        have hdr : L.drop j = [] := List.drop_of_length_le (by rw [HMM.out]; omega)
        have HU4 := Lib.hid (HU3.out.trans (HBR.out.mono HU3.out.size))
        have CNx : Hid (∀ W A c, Below u2.heap.size u2 W → KeysAt W A nq c qs → Calls Try.prog 13 #[.slice B m d, .int .i64 p, .slice A nq c] W fun e w' => ∃ A c, e = .returned (.tuple #[.slice A 0 c, .bool false]) ∧ Below W.heap.size W w') := Lib.hid (fun W A c hb hk => by
          have := CNj.out W A c hb hk
          rw [hdr] at this
          exact this.mono (fun e w' h => by obtain ⟨A, c, h1, h2, _⟩ := h; exact ⟨A, c, h1, h2⟩))
        have CLx : Hid (∀ W A c, Below u2.heap.size u2 W → KeysAt W A nq c qs → Calls Try.prog 16 #[.slice B m d, .int .i64 p, .slice A nq c] W fun e w' => ∃ A c, e = .returned (.slice A 0 c) ∧ Below W.heap.size W w') := Lib.hid (fun W A c hb hk => by
          have := CLj.out W A c hb hk
          rw [hdr] at this
          exact this.mono (fun e w' h => by obtain ⟨v, h1, h2, h3⟩ := h; obtain ⟨A, c, h4, _⟩ := h3.form; exact ⟨A, c, by rw [h1, h4]; rfl, h2⟩))
        clear hdr CNj CLj HLL
        go_wp2_with fail
        refine (CNx.out wr A6 c6 HU4.out HKR.out).mono ?_
        rintro e wn ⟨Ar, cr, rfl, hbn⟩
        have HKn := Lib.hid (HKR.out.below hbn)
        have HBn := Lib.hid (HU4.out.trans (hbn.mono HU4.out.size))
        clear hbn HKR
        go_wp2_with fail
        refine (CLx.out wn A6 c6 HBn.out HKn.out).mono ?_
        rintro e wl ⟨Al, cl, rfl, hbl⟩
        have HBl := Lib.hid (HBn.out.trans (hbl.mono HBn.out.size))
        clear hbl HKn
        go_wp2_with fail
        refine (known_any wl).mono ?_
        rintro e wz ⟨rfl, hbz⟩
        have HBZ := Lib.hid (HU2.out.trans ((HBl.out.trans (hbz.mono HBl.out.size)).mono HU2.out.size))
        clear hbz
        go_wp2_with fail
        go_ret
        exact ⟨rfl, HBZ.out⟩
end Go.Proofs.Ytoamjdjmfhdaeaa
