/- BlockDecodes. -/
import Derived.Test.YtnhggaghidbniaaBlkE
import Derived.Deep.CutRange
import Derived.Deep.DeepCutAuto
namespace Go.Proofs.Ytnhggaghidbniaa
open Go.RowKit
set_option linter.unusedVariables false
set_option linter.unusedSimpArgs false
open Wir ShaW Sha
set_option maxRecDepth 100000

theorem form_le {x : Hd} {txs : List (List UInt8)} (hx : x.fits) (h : txsSum txs ≤ 999999000) : (form x txs).length ≤ 189 + txsSum txs := by
  have htl : ∀ b ∈ txs, b.length < 2 ^ 64 := fun b hb => by have h1 := txs_mem hb; omega
  have hok := blkFields_okay hx htl
  have h1 := msgR_le (blkFields x txs) (fun f hf => (hok f hf).2)
  rw [msgR_right _ (fun f hf => (hok f hf).1)] at h1
  refine Nat.le_trans h1 ?_
  have h2 := headerB_le hx
  unfold blkFields
  rw [fieldsSum_cons]
  show (headerB x).length + 20 + txsSum txs ≤ _
  omega
theorem sl_fill4 (A0 A1 A2 A3 : Option Addr) (n0 c0 n1 c1 n2 c2 n3 c3 : Nat) (ie : TypeInfo) (hs : ie.size = 1) : Instr.fill (fun i => some (i * ie.size, ie.size)) ((Array.range (4 * ie.size)).map ((Value.slice none 0 0).cells[· % (Value.slice none 0 0).cells.size]!)) [(0, .slice A0 n0 c0), (1, .slice A1 n1 c1), (2, .slice A2 n2 c2), (3, .slice A3 n3 c3)] = some #[.slice A0 n0 c0, .slice A1 n1 c1, .slice A2 n2 c2, .slice A3 n3 c3] := by
  rw [hs]
  kernel_rfl
theorem lenSum_le_all {k : Nat} : ∀ txs : List (List UInt8), (∀ b ∈ txs, b.length ≤ k) → lenSum txs ≤ txs.length * k
  | [], _ => by simp [lenSum]
  | b :: l, h => by
    have ih := lenSum_le_all l (fun b hb => h b (List.mem_cons_of_mem _ hb))
    have h1 := h b (List.mem_cons_self ..)
    unfold lenSum at ih ⊢
    rw [List.map_cons, List.sum_cons, List.length_cons, Nat.succ_mul]
    omega
theorem decE_zero {b : List UInt8} (h : decE b = 0) : ∃ x txs, Wir.decode b = .ok (x, txs) := by
  unfold decE at h
  cases hd : Wir.decode b with
  | ok p => exact ⟨p.1, p.2, rfl⟩
  | error c =>
    rw [hd] at h
    have h : c = 0 := h
    subst h
    unfold Wir.decode at hd
    split at hd
    · cases hd
    split at hd
    · cases hd
    · cases hd
    split at hd
    · cases hd
    split at hd
    · cases hd
    split at hd
    · split at hd
      · cases hd
      · rename_i hne
        injection hd with hd
        exact absurd hd hne
    · cases hd
theorem and_1 (n : Nat) (h : n < 256) : ∃ z : Nat, (z = 0 ∨ z = 1) ∧ bits BinOp.and IntKind.u8 (n : Int) 1 = (z : Int) := by
  have h' : ∀ n : Fin 256, bits BinOp.and IntKind.u8 (n.val : Int) 1 = (n.val : Int) % 2 := by decide +kernel
  exact ⟨n % 2, by omega, (h' ⟨n, h⟩).trans (by show (n : Int) % 2 = ((n % 2 : Nat) : Int); omega)⟩
theorem and_2 (n : Nat) (h : n < 256) : ∃ z : Nat, (z = 0 ∨ z = 2) ∧ bits BinOp.and IntKind.u8 (n : Int) 2 = (z : Int) := by
  have h' : ∀ n : Fin 256, bits BinOp.and IntKind.u8 (n.val : Int) 2 = 2 * ((n.val : Int) / 2 % 2) := by decide +kernel
  exact ⟨2 * (n / 2 % 2), by omega, (h' ⟨n, h⟩).trans (by show 2 * ((n : Int) / 2 % 2) = ((2 * (n / 2 % 2) : Nat) : Int); omega)⟩
def at4 (a b c d : List UInt8) (k : Nat) : List UInt8 := match k with | 0 => a | 1 => b | 2 => c | _ => d
set_option maxHeartbeats 8000000 in
attribute [local go_sem ↓] wp_load_hd wp_store_hd wp_load_bl wp_store_bl in
theorem blockDecodes_any (w : World) (v0 : Value) (raw : List UInt8) (hraw : SeeB w v0 raw) (hrl : raw.length ≤ 1073741824) (x : Hd) (hx : x.fits) (tv : Value) (txs : List (List UInt8)) (ht : TxsAt w tv txs) (hsz : lenSum txs + txs.length ≤ 4611686018427387904) (how : Int) (h1 : -9223372036854775808 ≤ how) (h2 : how ≤ 9223372036854775807)
    (an cn : Nat) (bc : UInt8) (han : an < 65536) (hcn : cn < 256) :
    Calls Try.prog 4 #[v0, blV x tv, .int .i64 how, .int .u16 (an : Int), .int .u8 (bc.toNat : Int), .int .u8 (cn : Int)] w fun e w' => e = .returned (.bool true) ∧ Below w.heap.size w w' := by
  obtain ⟨cb, hcb⟩ : ∃ cb, (blCells x tv).toArray = cb := ⟨_, rfl⟩
  have o1 := ht.oneCell
  show Calls _ _ #[v0, .agg (blCells x tv).toArray, _, _, _, _] _ _
  rw [hcb]
  have hlen0 := hraw.len_
  obtain ⟨rl, hrl0⟩ : ∃ rl, raw.length = rl := ⟨_, rfl⟩
  rw [hrl0] at hlen0 hrl
  have HRL := Lib.hid hrl0
  have HRAW := Lib.hid hraw
  have HCB := Lib.hid hcb
  have HO := Lib.hid o1
  have HT := Lib.hid ht
  have HX := Lib.hid hx
  have HSZ := Lib.hid hsz
  have HW1 := Lib.hid h1
  have HW2 := Lib.hid h2
  have HCN := Lib.hid hcn
  clear hcb ht hx hsz o1 h1 h2 hrl0 hraw hcn
  go_enter Try.func4, Try.ntmps4
  go_upto_region 1 with (fail)
  generalize hw1 : World.alloc _ _ = w1
  have hb1 : Below w.heap.size w w1 := by rw [← hw1]; exact below_one
  have hk1 : Blk w1 w.heap.size 28 (blCells x tv).toArray := by rw [← hw1, HCB.out]; exact heap_alloc_new _ _
  obtain ⟨g, hg⟩ : ∃ g, w.heap.size = g := ⟨_, rfl⟩
  rw [hg] at hk1
  rw [show (⟨w.heap.size, 0, none⟩ : Addr) = ⟨g, 0, none⟩ by rw [hg]]
  have HB1 := Lib.hid hb1
  have HT1 := Lib.hid (HT.out.below hb1)
  have HR1 := Lib.hid (HRAW.out.below hb1)
  have HST : Hid (BlS g x tv w1) := Lib.hid (bl_rangeAll hk1)
  clear hw1 hb1 hk1 hg HT HRAW
  by_cases hr3 : rl > 300
  case pos =>
    have t1 : (rl : Int) > 300 := by omega
    clear hr3
    go_wp2_with fail
    refine (known_any w1).mono ?_
    rintro e w3 ⟨rfl, hb3⟩
    have HB3 := Lib.hid (HB1.out.trans (hb3.mono HB1.out.size))
    clear hb3
    go_wp2_with fail
    go_ret
    exact ⟨rfl, HB3.out⟩
  have t1 : ¬ (rl : Int) > 300 := by omega
  have HR3 := Lib.hid hr3
  clear hr3
  have hrg : w1.rangeAt g 0 (blCells x tv) := HST.out
  have q1 := aggOk_mk hrg (blCells_len _ _)
  have q2 := loadN_eq hrg (blCells_len _ _)
  clear hrg
  obtain ⟨nn, hnn⟩ : ∃ nn, txs.length + lenSum txs = nn := ⟨_, rfl⟩
  have HNN := Lib.hid hnn
  go_wp2_with fail
  refine (small_any w1 x tv txs HT1.out HSZ.out).mono ?_
  rintro e w2 ⟨rfl, hb2⟩
  rw [hnn]
  have HB2 := Lib.hid (HB1.out.trans (hb2.mono HB1.out.size))
  have HT2 := Lib.hid (HT1.out.below hb2)
  have HK2 := Lib.hid (HST.out.below hb2)
  have HR2 := Lib.hid (HR1.out.below hb2)
  clear hb2 hnn q1 q2 HB1 HT1 HST HR1
  by_cases hsm : nn < 300
  case neg =>
    rw [decide_eq_false hsm]
    clear hsm HNN t1
    go_wp2_with fail
    refine (known_any w2).mono ?_
    rintro e w3 ⟨rfl, hb3⟩
    have HB3 := Lib.hid (HB2.out.trans (hb3.mono HB2.out.size))
    clear hb3
    go_wp2_with fail
    go_ret
    exact ⟨rfl, HB3.out⟩
  rw [decide_eq_true hsm]
  have HSUM : Hid (txsSum txs ≤ 6300) := Lib.hid (by rw [lenSum_txs]; have := HNN.out; omega)
  clear hsm HNN HSZ t1
  have hrg : w2.rangeAt g 0 (blCells x tv) := HK2.out
  have q1 := aggOk_mk hrg (blCells_len _ _)
  have q2 := loadN_eq hrg (blCells_len _ _)
  clear hrg
  go_wp2_with fail
  refine (near_any w2 x HX.out tv HO.out how HW1.out HW2.out).mono ?_
  rintro e w3 ⟨y, hyf, rfl, hbn⟩
  have HYF := Lib.hid hyf
  have HB3 := Lib.hid (HB2.out.trans (hbn.mono HB2.out.size))
  have HT3 := Lib.hid (HT2.out.below hbn)
  have HR3' := Lib.hid (HR2.out.below hbn)
  clear hbn hyf q1 q2 HB2 HT2 HK2 HR2
  go_wp2_with fail
  refine (form_any w3 y HYF.out tv txs HT3.out (by have := HSUM.out; omega)).mono ?_
  rintro e w4 ⟨mv, rfl, hbn, hof⟩
  obtain ⟨F, hF⟩ : ∃ F, form y txs = F := ⟨_, rfl⟩
  have hFl : F.length ≤ 7000 := by rw [← hF]; have := form_le HYF.out (txs := txs) (by have := HSUM.out; omega); have := HSUM.out; omega
  rw [hF] at hof
  have hsf := hof.see
  have HB4 := Lib.hid (HB3.out.trans (hbn.mono HB3.out.size))
  have HR4 := Lib.hid (HR3'.out.below hbn)
  have HM4 := Lib.hid hsf
  have hlenm := hsf.len_
  obtain ⟨fl, hfl⟩ : ∃ fl, F.length = fl := ⟨_, rfl⟩
  rw [hfl] at hlenm hFl
  have HFL := Lib.hid hfl
  obtain ⟨i, hi⟩ : ∃ i, an % (fl + 1) = i := ⟨_, rfl⟩
  have hil : i ≤ fl := by have := Nat.mod_lt an (show fl + 1 > 0 by omega); omega
  have g1 : IntKind.i64.wrap (an : Int) = (an : Int) := IntWalk.i64_in _ (by omega)
  have g2 : IntKind.i64.wrap ((fl : Int) + 1) = (fl : Int) + 1 := IntWalk.i64_in _ (by omega)
  have g3 : (an : Int).tmod ((fl : Int) + 1) = (i : Int) := by rw [Int.tmod_eq_emod_of_nonneg (by omega), ← hi]; exact (Int.natCast_emod an (fl + 1)).symm
  have g4 : ¬ ((fl : Int) + 1) = 0 := by omega
  have HIL := Lib.hid hil
  have HFL2 := Lib.hid hFl
  obtain ⟨mi, hmi, hmi1, hmi2⟩ := hsf.upto_ (k := i) (by rw [hfl]; exact hil) .i64
  have HMI := Lib.hid hmi
  clear hF hbn hof hsf hi hil hfl hFl hmi HT3 HR3' HB3 hlen0
  have HL5 : Hid ((F.take i).length ≤ 7000) := Lib.hid (by rw [List.length_take]; have := HFL2.out; have := HIL.out; omega)
  have hown0 : OwnB (w4.alloc (.cells #[] 5)) w4.heap.size (.slice (some ⟨w4.heap.size, 0, none⟩) 0 0) [] :=
    ⟨rfl, .inr ⟨w4.heap.size, 0, #[], rfl, Nat.le_refl _, heap_alloc_new _ _, Nat.le_refl _, Nat.zero_le _, rfl, rfl⟩⟩
  have HOW := Lib.hid hown0
  clear hown0
  go_wp2_with (at_builtin
               refine halted ?_)
  change wpList _ _ _ _ _ _
  refine wpList_app_bytes rfl (.tmp 43) (.tmp 46) rfl w4.heap.size _ [] rfl HOW.out _ (F.take i) rfl (HMI.out.below below_one) (by have := HL5.out; simp only [List.length_nil]; omega) (by simp) ?_
  intro cv w5 ho5 hb5 hg5
  rw [List.nil_append] at ho5
  have HB5 : Hid (Below w4.heap.size w4 w5) := Lib.hid (below_one.trans hb5)
  have HC5 := Lib.hid ho5
  clear hb5 hg5 ho5 HOW HMI hmi1 hmi2 g1 g2 g3 g4
  obtain ⟨z1, hz1, hA1⟩ := and_1 cn HCN.out
  obtain ⟨z2, hz2, hA2⟩ := and_2 cn HCN.out
  have HZ1 := Lib.hid hz1
  have HZ2 := Lib.hid hz2
  clear hz1 hz2
  go_upto_if 50 with (fail)
  go_cut [15, 50] (fun s s50 wx => ∃ c : List UInt8, OwnB wx w4.heap.size s c ∧ c.length ≤ 7001 ∧ Below w4.heap.size w4 wx)
  case first =>
    rcases HZ1.out with h0 | h0
    · subst h0
      go_wp2_with fail
      go_meet
      exact ⟨_, HC5.out, by have := HL5.out; omega, HB5.out⟩
    · subst h0
      go_wp2_with (at_builtin
                   refine halted ?_)
      change wpList _ _ _ _ _ _
      refine wpList_app_u8 rfl (.tmp 51) (.tmp 53) rfl w4.heap.size _ (F.take i) rfl HC5.out bc rfl (by have := HL5.out; omega) HB5.out.size ?_
      intro v6 w6 ho6 hb6 hg6
      go_wp2_with fail
      go_meet
      exact ⟨_, ho6, by rw [List.length_append]; have := HL5.out; simp only [List.length_singleton]; omega, HB5.out.trans hb6⟩
  case rest =>
  obtain ⟨c6, ho6, hl6, hb6⟩ := hcut
  obtain ⟨s15, hs15⟩ : ∃ s, u15 = s := ⟨_, rfl⟩
  rw [hs15] at ho6 ⊢
  have HB6 := Lib.hid hb6
  have HC6 := Lib.hid ho6
  have HL6 := Lib.hid hl6
  clear hb6 ho6 hl6 hs15 HC5 HL5 HB5
  go_upto_if 57 with (fail)
  go_cut [15, 57] (fun s s57 wx => ∃ c : List UInt8, OwnB wx w4.heap.size s c ∧ c.length ≤ 14001 ∧ Below w4.heap.size w4 wx)
  case first =>
    rcases HZ2.out with h0 | h0
    · subst h0
      go_wp2_with fail
      go_meet
      exact ⟨_, HC6.out, by have := HL6.out; omega, HB6.out⟩
    · subst h0
      obtain ⟨k, hk⟩ : ∃ k, min (i + z1) fl = k := ⟨_, rfl⟩
      have hkl : k ≤ fl := by omega
      have hz1 : z1 ≤ 1 := by have := HZ1.out; omega
      have hfl := HFL2.out
      have hil := HIL.out
      have g5 : IntKind.i64.wrap (z1 : Int) = (z1 : Int) := IntWalk.i64_in _ (by omega)
      have g6 : IntKind.i64.wrap ((i : Int) + (z1 : Int)) = (i : Int) + (z1 : Int) := IntWalk.i64_in _ (by omega)
      have g7 : min ((i : Int) + (z1 : Int)) (fl : Int) = (k : Int) := by omega
      obtain ⟨mk, hmk, hmk1, hmk2⟩ := HM4.out.from_ (k := k) (by rw [HFL.out]; exact hkl)
      have HMK := Lib.hid (hmk.below HB6.out)
      have HKL : Hid ((F.drop k).length ≤ 7000) := Lib.hid (by rw [List.length_drop, HFL.out]; omega)
      clear hmk hk hz1 hkl hfl hil
      go_wp2_with (at_builtin
                   refine halted ?_)
      change wpList _ _ _ _ _ _
      refine wpList_app_bytes rfl (.tmp 58) (.tmp 68) rfl w4.heap.size _ c6 rfl HC6.out _ (F.drop k) rfl HMK.out (by have := HL6.out; have := HKL.out; omega) HB6.out.size ?_
      intro v7 w7 ho7 hb7 hg7
      go_wp2_with fail
      go_meet
      exact ⟨_, ho7, by rw [List.length_append]; have := HL6.out; have := HKL.out; omega, HB6.out.trans hb7⟩
  case rest =>
  obtain ⟨c7, ho7, hl7, hb7⟩ := hcut
  obtain ⟨A7, k7, hv7⟩ := own_form (show wc.ownsRow w4.heap.size 5 1 u15 _ _ from ho7)
  obtain ⟨n7, hn7⟩ : ∃ n, c7.length = n := ⟨_, rfl⟩
  rw [hn7] at hv7
  subst hv7
  have HB7 := Lib.hid hb7
  have HC7 := Lib.hid ho7.see
  have HL7 : Hid (c7.length ≤ 14001) := Lib.hid hl7
  have HM7 := Lib.hid (HM4.out.below hb7)
  have HR7 := Lib.hid (HR4.out.below hb7)
  clear hb7 ho7 hl7 hn7 HC6 HL6 HB6
  have hown0 : OwnB (wc.alloc (.cells #[] 5)) wc.heap.size (.slice (some ⟨wc.heap.size, 0, none⟩) 0 0) [] :=
    ⟨rfl, .inr ⟨wc.heap.size, 0, #[], rfl, Nat.le_refl _, heap_alloc_new _ _, Nat.le_refl _, Nat.zero_le _, rfl, rfl⟩⟩
  have HOW := Lib.hid hown0
  clear hown0
  go_wp2_with (at_builtin
               refine halted ?_)
  change wpList _ _ _ _ _ _
  refine wpList_app_bytes rfl (.tmp 73) (.tmp 74) rfl wc.heap.size _ [] rfl HOW.out _ F rfl (HM7.out.below below_one) (by have := HFL2.out; have := HFL.out; simp; omega) (by simp) ?_
  intro v8 w8 ho8 hb8 hg8
  rw [List.nil_append] at ho8
  have HB8 : Hid (Below wc.heap.size wc w8) := Lib.hid (below_one.trans hb8)
  have HC8 := Lib.hid ho8
  clear hb8 ho8 hg8 HOW
  go_wp2_with (at_builtin
               refine halted ?_)
  change wpList _ _ _ _ _ _
  refine wpList_app_bytes rfl (.tmp 75) (.tmp 76) rfl wc.heap.size _ F rfl HC8.out _ raw rfl (HR7.out.below HB8.out) (by have := HFL2.out; have := HFL.out; have := HR3.out; have := HRL.out; omega) HB8.out.size ?_
  intro v9 w9 ho9 hb9 hg9
  obtain ⟨A9, k9, hv9⟩ := own_form (show w9.ownsRow wc.heap.size 5 1 v9 _ _ from ho9)
  obtain ⟨n9, hn9⟩ : ∃ n, (F ++ raw).length = n := ⟨_, rfl⟩
  rw [hn9] at hv9
  subst hv9
  have HB9 : Hid (Below wc.heap.size wc w9) := Lib.hid (HB8.out.trans hb9)
  have HC9 := Lib.hid ho9.see
  have HL9 : Hid ((F ++ raw).length ≤ 14001) := Lib.hid (by rw [List.length_append]; have := HFL2.out; have := HFL.out; have := HR3.out; have := HRL.out; omega)
  clear hb9 ho9 hg9 hn9 HC8 HB8
  obtain ⟨A0, k0, hv0, _⟩ := HR4.out
  obtain ⟨n0, hn0⟩ : ∃ n, raw.length = n := ⟨_, rfl⟩
  obtain ⟨A1, k1, hv1, _⟩ := HM4.out
  obtain ⟨n1, hn1⟩ : ∃ n, F.length = n := ⟨_, rfl⟩
  rw [hn0] at hv0
  rw [hn1] at hv1
  subst hv0 hv1
  clear hn0 hn1
  obtain ⟨i0, hi0, hz0, hz1, hz2⟩ := info_parts sl_info
  have HI0 := Lib.hid hi0
  have HZ0 := Lib.hid hz0
  clear hi0 hz0
  go_wp2_with (refine wpList_buildSlice rfl 26 33 4 _ rfl #[.slice A0 n0 k0, .slice A1 n1 k1, .slice A7 n7 k7, .slice A9 n9 k9] i0 _ Try.underlying26 HI0.out HZ0.out (by rw [hz1]; omega) (by rw [hz1]; omega) (by simp only [List.map_toArray, List.map_cons, List.map_nil]; exact sl_fill4 _ _ _ _ _ _ _ _ _ _ _ _ i0 hz1) ?_)
  generalize hwA : World.alloc _ _ = wA
  have hbA : Below w9.heap.size w9 wA := by rw [← hwA]; exact below_one
  have hkA : Blk wA w9.heap.size 33 #[.slice A0 n0 k0, .slice A1 n1 k1, .slice A7 n7 k7, .slice A9 n9 k9] := by rw [← hwA]; exact heap_alloc_new _ _
  obtain ⟨gA, hgA⟩ : ∃ g, w9.heap.size = g := ⟨_, rfl⟩
  rw [hgA] at hkA ⊢
  have HBA : Hid (Below w.heap.size w wA) := Lib.hid ((((HB4.out.trans (HB7.out.mono HB4.out.size)).trans (HB9.out.mono (HB4.out.trans (HB7.out.mono HB4.out.size)).size)).trans (hbA.mono ((HB4.out.trans (HB7.out.mono HB4.out.size)).trans (HB9.out.mono (HB4.out.trans (HB7.out.mono HB4.out.size)).size)).size)))
  have HFour : Hid (∀ k : Nat, k < 4 → ∃ (u : Value) (b : List UInt8), wA.cell? ⟨gA, k, none⟩ = some u ∧ SeeB wA u b ∧ b.length ≤ 14001) := Lib.hid (fun k hk => by
    match k, hk with
    | 0, _ => exact ⟨.slice A0 n0 k0, raw, by rw [hkA.cell]; rfl, (HR7.out.below HB9.out).below hbA, by have := HR3.out; have := HRL.out; omega⟩
    | 1, _ => exact ⟨.slice A1 n1 k1, F, by rw [hkA.cell]; rfl, (HM7.out.below HB9.out).below hbA, by have := HFL2.out; have := HFL.out; omega⟩
    | 2, _ => exact ⟨.slice A7 n7 k7, c7, by rw [hkA.cell]; rfl, (HC7.out.below HB9.out).below hbA, HL7.out⟩
    | 3, _ => exact ⟨.slice A9 n9 k9, F ++ raw, by rw [hkA.cell]; rfl, HC9.out.below hbA, HL9.out⟩)
  clear hwA hbA hkA hgA HB9 HC9 HL9 HB7 HC7 HL7 HM7 HR7 HB4 HR4 HM4 HR3 HRL HFL HFL2
  go_loopw [80] (fun i wr => ∃ k : Nat, k ≤ 4 ∧ i = .int .i64 (k : Int) ∧ Below wA.heap.size wA wr) (fun i _ => 4 - (intOf i).toNat)
  case atStart => exact ⟨0, by omega, rfl, Below.refl _ _⟩
  case round =>
    obtain ⟨k, hk, rfl, hb⟩ := hrel
    by_cases hlt : k < 4
    case neg =>
      obtain rfl : k = 4 := by omega
      have HB6 := Lib.hid (HBA.out.trans (hb.mono HBA.out.size))
      clear hb hlt hk
      go_wp2_with fail
      refine (known_any wr).mono ?_
      rintro e w7 ⟨rfl, hb7⟩
      have HB7 := Lib.hid (HB6.out.trans (hb7.mono HB6.out.size))
      clear hb7
      go_wp2_with fail
      go_ret
      exact ⟨rfl, HB7.out⟩
    obtain ⟨u, b, hu, hsu, hbl⟩ := HFour.out k hlt
    have hu' := (hb.cell (p := ⟨gA, k, none⟩) (World.block_lt_of_cell? wA _ hu)).trans hu
    have hou := hsu.oneCell
    have HSU := Lib.hid (hsu.below hb)
    have HBL := Lib.hid hbl
    have HBR := Lib.hid (HBA.out.trans (hb.mono HBA.out.size))
    have HBK := Lib.hid hb
    have hki : (k : Int) < 4 := by omega
    have HDL : Hid (b.length ≤ 1073741824) := Lib.hid (by omega)
    obtain ⟨y1, hy1⟩ : ∃ y, (decB b).1 = y := ⟨_, rfl⟩
    obtain ⟨ts, hts⟩ : ∃ ts, (decB b).2 = ts := ⟨_, rfl⟩
    obtain ⟨de, hde⟩ : ∃ de, decE b = de := ⟨_, rfl⟩
    have HDE := Lib.hid hde
    have HY1 := Lib.hid hy1
    have HTS := Lib.hid hts
    clear hu hsu hbl hb hy1 hts hde
    go_wp2_with fail
    refine (bdec_see wr u b HSU.out HDL.out).mono ?_
    rintro e w10 ⟨hbn, tv3, rfl, htn⟩
    rw [HDE.out, HY1.out]
    rw [HTS.out] at htn
    have qs := bl_sto w10 (blCells y1 tv3) (blCells_len _ _) (blCells_one htn.oneCell)
    have HB10 := Lib.hid (HBK.out.trans (hbn.mono HBK.out.size))
    have HS10 := Lib.hid (HSU.out.below hbn)
    have HU10 := Lib.hid htn
    clear hbn htn HSU HBK hu'
    go_upto_region 14 with (fail)
    generalize hwn : storeMid _ _ _ = w11
    obtain ⟨hbn, hhn⟩ := bl_end (blCells_len _ _) hwn
    obtain ⟨gx, hgx⟩ : ∃ gx, w10.heap.size = gx := ⟨_, rfl⟩
    rw [hgx] at hhn ⊢
    have HB11 := Lib.hid (HB10.out.trans (hbn.mono HB10.out.size))
    have HS11 := Lib.hid (HS10.out.below hbn)
    have HU11 := Lib.hid (HU10.out.below hbn)
    have HX11 : Hid (BlS gx y1 tv3 w11) := Lib.hid (bl_rangeAll hhn)
    clear hwn hbn hhn hgx qs HB10 HS10 HU10
    go_wp2_with fail
    refine (rdec_see w11 u b HS11.out HDL.out).mono ?_
    rintro e w12 ⟨hbn, tv4, rfl, htn⟩
    rw [HDE.out, HY1.out]
    rw [HTS.out] at htn
    have qs := bl_sto w12 (blCells y1 tv4) (blCells_len _ _) (blCells_one htn.oneCell)
    have HB12 := Lib.hid (HB11.out.trans (hbn.mono HB11.out.size))
    have HS12 := Lib.hid (HS11.out.below hbn)
    have HU12 := Lib.hid (HU11.out.below hbn)
    have HX12 := Lib.hid (HX11.out.below hbn)
    have HV12 := Lib.hid htn
    clear hbn htn HB11 HS11 HU11 HX11
    go_upto_region 15 with (fail)
    generalize hwn : storeMid _ _ _ = w13
    obtain ⟨hbn, hhn⟩ := bl_end (blCells_len _ _) hwn
    obtain ⟨gy, hgy⟩ : ∃ gy, w12.heap.size = gy := ⟨_, rfl⟩
    rw [hgy] at hhn ⊢
    have HB13 := Lib.hid (HB12.out.trans (hbn.mono HB12.out.size))
    have HS13 := Lib.hid (HS12.out.below hbn)
    have HU13 := Lib.hid (HU12.out.below hbn)
    have HV13 := Lib.hid (HV12.out.below hbn)
    have HX13 := Lib.hid (HX12.out.below hbn)
    have hr1 : w13.rangeAt gx 0 (blCells y1 tv3) := HX13.out
    have hr2 := bl_rangeAll hhn
    have q1 := aggOk_mk hr1 (blCells_len _ _)
    have q2 := loadN_eq hr1 (blCells_len _ _)
    have q3 := aggOk_mk hr2 (blCells_len _ _)
    have q4 := loadN_eq hr2 (blCells_len _ _)
    have ne1 : (de != de) = false := by simp
    clear hwn hbn hhn hgy qs hr1 hr2 HB12 HS12 HU12 HV12 HX12
    go_wp2_with fail
    refine (same_block w13 y1 y1 tv3 tv4 ts rfl HU13.out HV13.out).mono ?_
    rintro e w14 ⟨rfl, hb14⟩
    have HB14 := Lib.hid (HB13.out.trans (hb14.mono HB13.out.size))
    have HS14 := Lib.hid (HS13.out.below hb14)
    have HU14 := Lib.hid (HU13.out.below hb14)
    have HX14 := Lib.hid (HX13.out.below hb14)
    clear hb14 q1 q2 q3 q4 ne1 HB13 HS13 HU13 HV13 HX13
    by_cases he0 : de = 0
    case neg =>
      have eq0 : (de == 0) = false := by simpa using he0
      go_wp2_with fail
      go_roundw
      case rel => exact ⟨k + 1, by omega, by go_num, HB14.out⟩
      case measure => simp [intOf]; omega
    subst he0
    obtain ⟨x1, t1, hd⟩ := decE_zero HDE.out
    have hdB := (decE_ok hd).2
    have e1 : x1 = y1 := by rw [← HY1.out, hdB]
    have e2 : t1 = ts := by rw [← HTS.out, hdB]
    subst e1 e2
    obtain ⟨a1, a2, a3, a4, a5, a6⟩ := decode_form hd
    have HFT := Lib.hid a3
    have HSM : Hid (t1.length ≤ 512 → txsSum t1 ≤ 999999000) := Lib.hid (fun _ => by
      have h1 := lenSum_le_all t1 (fun c hc => Nat.le_trans (a6 c hc) HBL.out)
      rw [lenSum_txs]
      have : t1.length * 14001 ≤ 1024 * 14001 := Nat.mul_le_mul_right _ a5
      omega)
    have HEE := Lib.hid a1
    have HEB : Hid (encB x1 t1 = b) := Lib.hid (by unfold encB; rw [if_pos a1]; exact a2)
    have hr1 : w14.rangeAt gx 0 (blCells x1 tv3) := HX14.out
    have q1 := aggOk_mk hr1 (blCells_len _ _)
    have q2 := loadN_eq hr1 (blCells_len _ _)
    clear hd hdB a1 a2 a3 a4 a5 a6 hr1
    go_wp2_with fail
    refine (benc_see w14 x1 HFT.out tv3 t1 HU14.out HSM.out).mono ?_
    rintro e w15 ⟨hbn, p1, rfl, hv1⟩
    rw [HEE.out]
    rw [HEB.out] at hv1
    have HB15 := Lib.hid (HB14.out.trans (hbn.mono HB14.out.size))
    have HS15 := Lib.hid (HS14.out.below hbn)
    have HV15 := Lib.hid hv1
    clear hbn hv1 q1 q2
    go_wp2_with fail
    refine (same_bytes HV15.out HS15.out).mono ?_
    rintro e w16 ⟨rfl, rfl⟩
    rw [decide_eq_true rfl]
    go_wp2_with fail
    go_roundw
    case rel => exact ⟨k + 1, by omega, by go_num, HB15.out⟩
    case measure => simp [intOf]; omega
end Go.Proofs.Ytnhggaghidbniaa
