/- Worlds that differ in named blocks and in new memory alone. -/
import Derived.Test.YtnhggaghidbniaaApp
import Derived.Maps.AppendAt
namespace Go.Proofs.Ytnhggaghidbniaa
open Go.RowKit
set_option linter.unusedVariables false

/-- of what was there only the blocks of S have turned -/
structure Only (S : Nat → Prop) (w w' : World) : Prop where
  os : w'.os = w.os
  tape : w'.tape = w.tape
  output : w'.output = w.output
  size : w.heap.size ≤ w'.heap.size
  block : ∀ k, k < w.heap.size → ¬ S k → w'.heap[k]? = w.heap[k]?

theorem Only.refl (S : Nat → Prop) (w : World) : Only S w w := ⟨rfl, rfl, rfl, Nat.le_refl _, fun _ _ _ => rfl⟩
theorem Only.of_grown {w w' : World} {row : Option Nat} (h : w.grownBy w' row) : Only (fun k => row = some k) w w' :=
  ⟨h.os, h.tape, h.output, h.size, fun k hk hs => h.block k hk (fun e => hs e.symm)⟩
theorem Only.of_below {w w' : World} (S : Nat → Prop) (h : Below w.heap.size w w') : Only S w w' := ⟨h.os, h.tape, h.output, h.size, fun k hk _ => h.block k hk⟩
theorem Only.trans {S S' : Nat → Prop} {w w1 w2 : World} (h : Only S w w1) (h' : Only S' w1 w2) (hs : ∀ k, S' k → S k ∨ w.heap.size ≤ k) : Only S w w2 :=
  ⟨h'.os.trans h.os, h'.tape.trans h.tape, h'.output.trans h.output, Nat.le_trans h.size h'.size, fun k hk hn =>
    (h'.block k (Nat.lt_of_lt_of_le hk h.size) (fun hs' => by rcases hs k hs' with h1 | h1; exact hn h1; omega)).trans (h.block k hk hn)⟩
theorem Only.mono {S S' : Nat → Prop} {w w' : World} (h : Only S w w') (hs : ∀ k, S k → S' k) : Only S' w w' := ⟨h.os, h.tape, h.output, h.size, fun k hk hn => h.block k hk (fun h1 => hn (hs k h1))⟩
theorem Only.below_ {S : Nat → Prop} {w w' : World} {B : Nat} (h : Only S w w') (hB : B ≤ w.heap.size) (hs : ∀ k, S k → B ≤ k) : Below B w w' :=
  ⟨h.os, h.tape, h.output, h.size, fun k hk => h.block k (by omega) (fun h1 => by have := hs k h1; omega)⟩
theorem Only.below_trans {S : Nat → Prop} {w w' : World} {B : Nat} {a : World} (ha : Below B a w) (h : Only S w w') (hB : B ≤ w.heap.size) (hs : ∀ k, S k → B ≤ k) : Below B a w' :=
  ha.trans (h.below_ hB hs)
theorem Only.drew_ {S : Nat → Prop} {w w' : World} (h : Only S w w') : Only S w w'.drew := ⟨h.os, h.tape, h.output, h.size, h.block⟩
theorem Only.drewN_ {S : Nat → Prop} {w w' : World} (h : Only S w w') (n : Nat) : Only S w (w'.drewN n) := ⟨h.os, h.tape, h.output, h.size, h.block⟩
theorem Only.of_drewN {S : Nat → Prop} {w w' : World} {n : Nat} (h : Only S (w.drewN n) w') : Only S w w' := ⟨h.os, h.tape, h.output, h.size, h.block⟩
theorem Only.of_drew {S : Nat → Prop} {w w' : World} (h : Only S w.drew w') : Only S w w' := ⟨h.os, h.tape, h.output, h.size, h.block⟩
theorem Only.alloc_ {S : Nat → Prop} {w w' : World} (h : Only S w w') (o : Obj) : Only S w (w'.alloc o) :=
  ⟨h.os, h.tape, h.output, Nat.le_trans h.size (by simp), fun k hk hn => (Below.heap_alloc w' o k (Nat.lt_of_lt_of_le hk h.size)).trans (h.block k hk hn)⟩
theorem Only.setCell_ {S : Nat → Prop} {w w' : World} (h : Only S w w') {p : Addr} (hp : S p.block ∨ w.heap.size ≤ p.block) (u : Value) : Only S w (w'.setCell p u) :=
  ⟨h.os, h.tape, h.output, by simpa [World.setCell] using h.size, fun k hk hn => (Below.heap_setCell w' p u k (by
    rintro rfl
    rcases hp with hp | hp
    · exact hn hp
    · omega)).trans (h.block k hk hn)⟩
theorem Only.setRow_ {S : Nat → Prop} {w w' : World} (h : Only S w w') {g : Nat} (hp : S g ∨ w.heap.size ≤ g) (cs : Array Value) : Only S w (w'.setRow g cs) :=
  ⟨h.os, h.tape, h.output, Nat.le_trans h.size (by simp [World.setRow]), fun k hk hn => by
    have hkg : k ≠ g := by
      rintro rfl
      rcases hp with hp | hp
      · exact hn hp
      · omega
    have e : (w'.setRow g cs).heap[k]? = w'.heap[k]? := by
      simp only [World.setRow, Array.getElem?_modify]
      rw [if_neg (Ne.symm hkg)]
    exact e.trans (h.block k hk hn)⟩
theorem Only.cell {S : Nat → Prop} {w w' : World} (h : Only S w w') {p : Addr} (hp : p.block < w.heap.size) (hs : ¬ S p.block) : w'.cell? p = w.cell? p := World.cell?_of_block (h.block _ hp hs)

theorem Blk.only {S : Nat → Prop} {w w' : World} {g : Nat} {t : TypeId} {cs : Array Value} (h : Blk w g t cs) (ho : Only S w w') (hg : ¬ S g) : Blk w' g t cs := (ho.block g h.lt hg).trans h
theorem owns_only {S : Nat → Prop} {w w' : World} {base : Nat} {e : TypeId} {size n : Nat} {v : Value} {xs : List Value} (h : w.ownsRow base e size v n xs) (ho : Only S w w') (hs : ∀ g, v.ownBlock = some g → ¬ S g) : w'.ownsRow base e size v n xs := by
  refine ⟨h.1, ?_⟩
  rcases h.2 with ⟨h1, h2⟩ | ⟨g, cap, cur, h1, h2, h3, h4⟩
  · exact .inl ⟨h1, h2⟩
  · subst h1
    have hlt : g < w.heap.size := (h.lt g rfl).2
    exact .inr ⟨g, cap, cur, rfl, h2, (ho.block g hlt (hs g rfl)).trans h3, h4⟩
theorem Reads.only {S : Nat → Prop} {w w' : World} {B size n : Nat} {A : Option Addr} {xs : List Value} (h : Reads w B size A n xs) (ho : Only S w w') (hB : B ≤ w.heap.size) (hs : ∀ k, S k → B ≤ k) : Reads w' B size A n xs :=
  h.keep fun p hp => ho.cell (by omega) (fun h1 => by have := hs _ h1; omega)

section
variable {P : Program} {w : World}
/-- append of one element that the statement itself has just laid; and where the new slice lies -/
theorem app_at {ops : Array Oper} {rest : List Oper} {o : Oper} {a : Act} {Q : Exit → Act → World → Prop} (hgd : o.guard = none) (s x : Operand) (t : TypeId)
    (ho : o.op = .call { callee := .builtin .append, args := #[s, x], argTypes := #[t, t] })
    (base : Nat) (e : TypeId) (i : TypeInfo) (z : Value) (size bytes : Nat) (ht : P.underlying t = some (.slice e)) (hi : P.info? e = some i) (hz : i.zero = some z)
    (hsize : i.size = size) (hby : i.bytes = bytes) (hzs : z.cells.size = size) (hsz : 0 < size)
    (v : Value) (n : Nat) (xs : List Value) (hs : a.eval s = v) (hown : w.ownsRow base e size v n xs) (us : List Value) (e' : TypeId) (H : Nat) (hH : w.heap.size = H)
    (hx : a.eval x = .slice (some ⟨H, 0, none⟩) 1 1) (hl : us.length = size) (h1 : ∀ u ∈ us, u.oneCell' = true)
    (h63 : n + 1 ≤ 140737488355328) (hbytes : (n + 1) * bytes ≤ 140737488355328) (hbase : base ≤ w.heap.size)
    (h : ∀ ao cap w', w'.ownsRow base e size (.slice ao (n + 1) cap) (n + 1) (xs ++ us) → w.grownBy w' v.ownBlock → (∀ k, (Value.slice ao (n + 1) cap).ownBlock = some k → v.ownBlock = some k ∨ H ≤ k) → wpList P ops Q rest (a.put o.dst (.slice ao (n + 1) cap)) w') :
    wpList P ops Q (o :: rest) a (w.alloc (.cells us.toArray e')) := by
  subst hH
  refine wpList_append_own_at (w.alloc (.cells us.toArray e')) hgd s x t ho base e i z size bytes ht hi hz hsize hby hzs hsz v n xs hs (hown.alloc _) ⟨w.heap.size, 0, none⟩ 1 1 us hx (by omega) ?_ h1 (by unfold maxLen; omega) hbytes (by simp; omega) ?_
  · intro j u hu
    have hadd : (⟨w.heap.size, 0, none⟩ : Addr).add j = ⟨w.heap.size, j, none⟩ := by unfold Addr.add; split <;> simp_all
    rw [hadd, World.cell?_alloc_at _ _ _ _ rfl]
    simpa using hu
  · intro v' w' h2 h3 _ h5
    obtain ⟨ao, cap, rfl⟩ : ∃ ao cap, v' = .slice ao (n + 1) cap := by
      rcases h2.2 with ⟨_, h0⟩ | ⟨g, cap, cur, h1, _⟩
      · omega
      · exact ⟨_, _, h1⟩
    refine h ao cap w' h2 ⟨h3.os, h3.tape, h3.output, Nat.le_trans (by simp) h3.size, fun k hk hne => ?_⟩ (fun k hk => ?_)
    · exact (h3.block k (by simp; omega) hne).trans (Below.heap_alloc _ _ _ hk)
    · rcases h5 with h5 | h5
      · exact .inl (h5.symm.trans hk)
      · right
        rw [h5] at hk
        injection hk with hk
        rw [← hk]
        simp
end
end Go.Proofs.Ytnhggaghidbniaa
