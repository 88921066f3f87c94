/- The small functions under SHA-256: rotations, and the bridge from Go's numbers of 32 bits to words. -/
import Derived.Test.YtnhggaghidbniaaRows
import Derived.WalkKit
import Derived.WalkSpells
import Derived.WalkLawsBesides
import Derived.Lib.Hide
import Derived.Deep.QuietTactic
import Derived.BigQuiet
import Derived.Great.BuildSlice
import Derived.Test.YtnhggaghidbniaaShaSpec
namespace Go.Proofs.Ytnhggaghidbniaa
open Go.RowKit
set_option linter.unusedVariables false
namespace ShaW
open Sha

theorem ofIntW (x : Wd) : BitVec.ofInt 32 (x.toNat : Int) = x := by
  apply BitVec.eq_of_toNat_eq
  rw [BitVec.ofInt_natCast, BitVec.toNat_ofNat]
  exact Nat.mod_eq_of_lt x.isLt
theorem wrapW (x : Wd) : IntKind.u32.wrap (x.toNat : Int) = (x.toNat : Int) := by
  rw [IntKind.wrap_u32]; have := x.isLt; omega
theorem xorN (a b : Wd) : bits .xor .u32 (a.toNat : Int) (b.toNat : Int) = ((a ^^^ b).toNat : Int) := by
  show IntKind.u32.wrap ((BitVec.ofInt 32 (a.toNat : Int) ^^^ BitVec.ofInt 32 (b.toNat : Int)).toNat : Int) = _
  rw [ofIntW, ofIntW, wrapW]
theorem andN (a b : Wd) : bits .and .u32 (a.toNat : Int) (b.toNat : Int) = ((a &&& b).toNat : Int) := by
  show IntKind.u32.wrap ((BitVec.ofInt 32 (a.toNat : Int) &&& BitVec.ofInt 32 (b.toNat : Int)).toNat : Int) = _
  rw [ofIntW, ofIntW, wrapW]
theorem orN (a b : Wd) : bits .or .u32 (a.toNat : Int) (b.toNat : Int) = ((a ||| b).toNat : Int) := by
  show IntKind.u32.wrap ((BitVec.ofInt 32 (a.toNat : Int) ||| BitVec.ofInt 32 (b.toNat : Int)).toNat : Int) = _
  rw [ofIntW, ofIntW, wrapW]
theorem notN (a : Wd) : bits .xor .u32 IntKind.u32.max (a.toNat : Int) = ((~~~ a).toNat : Int) := by
  show IntKind.u32.wrap ((BitVec.ofInt 32 IntKind.u32.max ^^^ BitVec.ofInt 32 (a.toNat : Int)).toNat : Int) = _
  rw [ofIntW, show BitVec.ofInt 32 IntKind.u32.max = BitVec.allOnes 32 from by decide, BitVec.xor_comm, BitVec.xor_allOnes, wrapW]
theorem addN (a b : Wd) : IntKind.u32.wrap ((a.toNat : Int) + (b.toNat : Int)) = ((a + b).toNat : Int) := by
  rw [IntKind.wrap_u32, BitVec.toNat_add]; omega
theorem addM (a b : Wd) : ((a.toNat : Int) + (b.toNat : Int)) % 4294967296 = ((a + b).toNat : Int) := by
  rw [BitVec.toNat_add]; omega
theorem shrN (a : Wd) (n : Nat) : (a.toNat : Int) / 2 ^ n = ((a >>> n).toNat : Int) := by
  rw [BitVec.toNat_ushiftRight, Nat.shiftRight_eq_div_pow]; simp
theorem shlN (a : Wd) (n : Nat) : IntKind.u32.wrap ((a.toNat : Int) * 2 ^ n) = ((a <<< n).toNat : Int) := by
  rw [BitVec.toNat_shiftLeft, Nat.shiftLeft_eq, IntKind.wrap_u32]; simp
end ShaW
open ShaW Sha

theorem turn_any (x : Wd) (n : Nat) (h1 : 1 ≤ n) (h2 : n ≤ 31) (w : World) :
    Calls Try.prog 60 #[.int .u32 x.toNat, .int .i64 n] w fun e w' => e = .returned (.int .u32 (rotr x n).toNat) ∧ ∃ m, w' = w.drewN m := by
  obtain ⟨q, hq⟩ : ∃ q, 32 - n = q := ⟨_, rfl⟩
  have hq2 : (32 : Int) - n = q := by omega
  have hqb : q ≤ 31 := by omega
  have e1 := shrN x n
  have e2 := shlN x q
  have E3 := Lib.hid (orN (x >>> n) (x <<< q))
  have E4 : Hid (rotr x n = (x >>> n) ||| (x <<< q)) := by show _ = _; rw [← hq]; rfl
  clear hq
  go_enter Try.func60, Try.ntmps60
  go_wp2
  go_quiet (fail)
  go_wp2
  go_ret
  exact ⟨by rw [E4.out, ← E3.out]; rfl, _, rfl⟩

theorem right_any (x : Wd) (n : Nat) (h1 : 1 ≤ n) (h2 : n ≤ 31) (w : World) :
    Calls Try.prog 65 #[.int .u32 x.toNat, .int .i64 n] w fun e w' => e = .returned (.int .u32 (rotr x n).toNat) ∧ ∃ m, w' = w.drewN m := by
  obtain ⟨q, hq⟩ : ∃ q, 32 - n = q := ⟨_, rfl⟩
  have e0 : bits .and .u64 (IntKind.u64.wrap (-(n : Int))) 31 = q := by
    have key : ∀ k : Fin 32, 1 ≤ k.val → bits .and .u64 (IntKind.u64.wrap (-(k.val : Int))) 31 = ((32 - k.val : Nat) : Int) := by decide
    rw [← hq]; exact key ⟨n, by omega⟩ h1
  have hqb : q ≤ 31 := by omega
  have hq3 : (32 : Int) - q = n := by omega
  have e1 := shrN x n
  have e2 := shlN x q
  have E3 := Lib.hid (orN (x <<< q) (x >>> n))
  have E4 : Hid (rotr x n = (x <<< q) ||| (x >>> n)) := by show _ = _; rw [← hq, BitVec.or_comm]; rfl
  clear hq
  go_enter Try.func65, Try.ntmps65
  go_wp2
  go_ret
  exact ⟨by rw [E4.out, ← E3.out]; rfl, 0, rfl⟩

theorem turn_lit (x : Wd) (n : Int) (h : 1 ≤ n ∧ n ≤ 31) (w : World) :
    Calls Try.prog 60 #[.int .u32 x.toNat, .int .i64 n] w fun e w' => e = .returned (.int .u32 (rotr x n.toNat).toNat) ∧ ∃ m, w' = w.drewN m := by
  have := turn_any x n.toNat (by omega) (by omega) w
  rwa [show ((n.toNat : Nat) : Int) = n by omega] at this
theorem right_lit (x : Wd) (n : Int) (h : 1 ≤ n ∧ n ≤ 31) (w : World) :
    Calls Try.prog 65 #[.int .u32 x.toNat, .int .i64 n] w fun e w' => e = .returned (.int .u32 (rotr x n.toNat).toNat) ∧ ∃ m, w' = w.drewN m := by
  have := right_any x n.toNat (by omega) (by omega) w
  rwa [show ((n.toNat : Nat) : Int) = n by omega] at this

/-- the constants as Go's numbers -/
def kArr : Array Value := #[.int .u32 1116352408, .int .u32 1899447441, .int .u32 3049323471, .int .u32 3921009573, .int .u32 961987163, .int .u32 1508970993, .int .u32 2453635748, .int .u32 2870763221, .int .u32 3624381080, .int .u32 310598401, .int .u32 607225278, .int .u32 1426881987, .int .u32 1925078388, .int .u32 2162078206, .int .u32 2614888103, .int .u32 3248222580, .int .u32 3835390401, .int .u32 4022224774, .int .u32 264347078, .int .u32 604807628, .int .u32 770255983, .int .u32 1249150122, .int .u32 1555081692, .int .u32 1996064986, .int .u32 2554220882, .int .u32 2821834349, .int .u32 2952996808, .int .u32 3210313671, .int .u32 3336571891, .int .u32 3584528711, .int .u32 113926993, .int .u32 338241895, .int .u32 666307205, .int .u32 773529912, .int .u32 1294757372, .int .u32 1396182291, .int .u32 1695183700, .int .u32 1986661051, .int .u32 2177026350, .int .u32 2456956037, .int .u32 2730485921, .int .u32 2820302411, .int .u32 3259730800, .int .u32 3345764771, .int .u32 3516065817, .int .u32 3600352804, .int .u32 4094571909, .int .u32 275423344, .int .u32 430227734, .int .u32 506948616, .int .u32 659060556, .int .u32 883997877, .int .u32 958139571, .int .u32 1322822218, .int .u32 1537002063, .int .u32 1747873779, .int .u32 1955562222, .int .u32 2024104815, .int .u32 2227730452, .int .u32 2361852424, .int .u32 2428436474, .int .u32 2756734187, .int .u32 3204031479, .int .u32 3329325298]
theorem kArr_size : kArr.size = 64 := rfl
theorem kArr_get (t : Nat) (h : t < 64) : kArr[t]? = some (.int .u32 ((kc t).toNat : Int)) := by
  have key : ∀ t : Fin 64, (match kArr[t.val]? with | some (.int .u32 n) => n == ((kc t.val).toNat : Int) | _ => false) = true := by decide
  have := key ⟨t, h⟩
  dsimp only at this
  split at this
  · rename_i n hn
    rw [hn]
    simp at this
    rw [this]
  · cases this

theorem setRow_same (w : World) (g : Nat) (cs old : Array Value) (t : TypeId) (hg : w.heap[g]? = some (.cells old t (0, 0))) : (w.setRow g cs).heap[g]? = some (.cells cs t (0, 0)) := by
  simp [World.setRow, Array.getElem?_modify, hg]
theorem setRow_other (w : World) (g k : Nat) (cs : Array Value) (h : k ≠ g) : (w.setRow g cs).heap[k]? = w.heap[k]? := by
  simp only [World.setRow, Array.getElem?_modify]
  rw [if_neg (Ne.symm h)]
theorem below_setRow {B : Nat} {a w : World} (h : Below B a w) {g : Nat} (hg : B ≤ g) (cs : Array Value) : Below B a (w.setRow g cs) :=
  h.trans ⟨rfl, rfl, rfl, by simp, fun k hk => setRow_other _ _ _ _ (by omega)⟩

set_option maxRecDepth 100000 in
theorem constants_any (w : World) : Calls Try.prog 61 #[] w fun e w' => e = .returned (.agg kArr) ∧ Below w.heap.size w w' := by
  go_enter Try.func61, Try.ntmps61
  go_wp2_with (first | (refine wpList_buildTo rfl 99 _ rfl (some 1) rfl kArr (by kernel_rfl) ?_) | (refine wpList_store_rowTo rfl 99 (.tmp 0) (.tmp 1) rfl rfl w.heap.size kArr rfl rfl _ _ (heap_alloc_new _ _) (by kernel_rfl) rfl (by kernel_rfl) ?_))
  refine bodyPost_ret (v := .agg kArr) (results_cell_row rfl _ _ w.heap.size _ kArr (0, 0) _ rfl (setRow_same _ _ _ _ _ (heap_alloc_new _ _)) Try.underlying99 rfl (by kernel_rfl)) rfl ⟨rfl, ?_⟩
  exact below_setRow ((Below.refl _ _).alloc (Nat.le_refl _) _) (Nat.le_refl _) _
set_option maxRecDepth 100000 in
theorem rounds_any (w : World) : Calls Try.prog 64 #[] w fun e w' => e = .returned (.pointer (some ⟨w.heap.size, 0, none⟩)) ∧ w' = w.alloc (.cells kArr 99) := by
  go_enter Try.func64, Try.ntmps64
  go_wp2_with (first | (refine wpList_buildTo rfl 99 _ rfl (some 1) rfl kArr (by kernel_rfl) ?_))
  go_ret
  exact ⟨rfl, rfl⟩
end Go.Proofs.Ytnhggaghidbniaa
