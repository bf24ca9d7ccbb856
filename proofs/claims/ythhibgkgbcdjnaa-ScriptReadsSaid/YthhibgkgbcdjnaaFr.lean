/- What a call keeps of the memory that lay before it: all blocks but those of a set. Plain lemmas. -/
import Derived.Test.YthhibgkgbcdjnaaWWords
import Derived.Test.YthhibgkgbcdjnaaWMore
namespace Go.Proofs.Ythhibgkgbcdjnaa.Fr
open Go.RowKit Go.Proofs.YthhibgkgbcdjnaaW.PrintWords Go.Proofs.YthhibgkgbcdjnaaW.PrintMore

/-- w1 is w, but for new blocks and for what lies in the blocks of S. -/
structure Fr (S : Nat → Prop) (w w1 : World) : Prop where
  os : w1.os = w.os
  tape : w1.tape = w.tape
  output : w1.output = w.output
  size : w.heap.size ≤ w1.heap.size
  block : ∀ i, i < w.heap.size → ¬ S i → w1.heap[i]? = w.heap[i]?

def nope : Nat → Prop := fun _ => False
def only (g : Nat) : Nat → Prop := fun i => i = g
theorem only_self (g : Nat) : only g g := rfl

theorem Fr.refl (S : Nat → Prop) (w : World) : Fr S w w := ⟨rfl, rfl, rfl, Nat.le_refl _, fun _ _ _ => rfl⟩
theorem Fr.mono {S S1 : Nat → Prop} {w w1 : World} (h : Fr S w w1) (hs : ∀ i, i < w.heap.size → S i → S1 i) : Fr S1 w w1 :=
  ⟨h.os, h.tape, h.output, h.size, fun i hi hn => h.block i hi fun k => hn (hs i hi k)⟩
theorem Fr.trans {S S1 : Nat → Prop} {w w1 w2 : World} (h : Fr S w w1) (k : Fr S1 w1 w2) (hs : ∀ i, i < w.heap.size → S1 i → S i) : Fr S w w2 :=
  ⟨k.os.trans h.os, k.tape.trans h.tape, k.output.trans h.output, Nat.le_trans h.size k.size,
    fun i hi hn => (k.block i (Nat.lt_of_lt_of_le hi h.size) fun e => hn (hs i hi e)).trans (h.block i hi hn)⟩
theorem Fr.below {S : Nat → Prop} {w w1 w2 : World} (h : Fr S w w1) (k : Below w1.heap.size w1 w2) : Fr S w w2 :=
  ⟨k.os.trans h.os, k.tape.trans h.tape, k.output.trans h.output, Nat.le_trans h.size k.size,
    fun i hi hn => (k.block i (Nat.lt_of_lt_of_le hi h.size)).trans (h.block i hi hn)⟩
theorem Fr.of_below {S : Nat → Prop} {w w1 : World} (k : Below w.heap.size w w1) : Fr S w w1 := (Fr.refl S w).below k
theorem Fr.alloc {S : Nat → Prop} {w w1 : World} (h : Fr S w w1) (o : Obj) : Fr S w (w1.alloc o) := h.below (below_alloc (Below.refl _ _) o)
theorem Fr.drew {S : Nat → Prop} {w w1 : World} (h : Fr S w w1) : Fr S w w1.drew := ⟨h.os, h.tape, h.output, h.size, h.block⟩
theorem Fr.drewN {S : Nat → Prop} {w w1 : World} (h : Fr S w w1) (n : Nat) : Fr S w (w1.drewN n) := ⟨h.os, h.tape, h.output, h.size, h.block⟩
theorem Fr.drawn {S : Nat → Prop} {w w1 w2 : World} (h : Fr S w w1) (k : Drawn0 w1 w2) : Fr S w w2 := h.below k.below
theorem Fr.set {S : Nat → Prop} {w w1 : World} (h : Fr S w w1) {g : Nat} (hg : g < w.heap.size → S g) (j : Nat) (u : Value) : Fr S w (w1.setCell ⟨g, j, none⟩ u) :=
  ⟨h.os, h.tape, h.output, by simpa [World.setCell] using h.size, fun i hi hn =>
    (Below.heap_setCell w1 ⟨g, j, none⟩ u i (fun (e : i = g) => hn (by subst e; exact hg hi))).trans (h.block i hi hn)⟩
theorem Fr.grown {S : Nat → Prop} {w w1 w2 : World} {row : Option Nat} (h : Fr S w w1) (k : w1.grownBy w2 row) (hr : ∀ b, row = some b → b < w.heap.size → S b) : Fr S w w2 :=
  ⟨k.os.trans h.os, k.tape.trans h.tape, k.output.trans h.output, Nat.le_trans h.size k.size,
    fun i hi hn => (k.block i (Nat.lt_of_lt_of_le hi h.size) (fun e => hn (hr i e.symm hi))).trans (h.block i hi hn)⟩
theorem Fr.to_below {S : Nat → Prop} {w w1 : World} {B : Nat} (h : Fr S w w1) (hB : B ≤ w.heap.size) (hs : ∀ i, S i → B ≤ i) : Below B w w1 :=
  ⟨h.os, h.tape, h.output, h.size, fun i hi => h.block i (by omega) fun k => by have := hs i k; omega⟩
theorem Fr.blk {S : Nat → Prop} {w w1 : World} {g : Nat} {o : Obj} (h : Fr S w w1) (hb : w.heap[g]? = some o) (hn : ¬ S g) : w1.heap[g]? = some o := (h.block g (blk_lt hb) hn).trans hb
theorem Fr.own {S : Nat → Prop} {w w1 : World} {base : Nat} {e : TypeId} {size n : Nat} {v : Value} {xs : List Value} (h : Fr S w w1) (ho : w.ownsRow base e size v n xs) (hn : ∀ b, v.ownBlock = some b → ¬ S b) : w1.ownsRow base e size v n xs := by
  obtain ⟨h1, h2⟩ := ho
  refine ⟨h1, ?_⟩
  rcases h2 with h2 | ⟨b, cap, cur, rfl, hb, hh, r⟩
  · exact .inl h2
  · exact .inr ⟨b, cap, cur, rfl, hb, h.blk hh (hn b rfl), r⟩
theorem Fr.readsOf {S : Nat → Prop} {w w1 : World} {α : Type} {enc : α → Value} {d : α} {A : Option Addr} {n : Nat} {xs : List α} (h : Fr S w w1) (hr : ReadsOf enc d w A n xs) (hn : ∀ ad, A = some ad → ¬ S ad.block) : ReadsOf enc d w1 A n xs := by
  refine ⟨hr.1, hr.2.1, fun h0 => ?_⟩
  obtain ⟨ad, hA, hc⟩ := hr.2.2 h0
  refine ⟨ad, hA, fun j hj => ?_⟩
  have hlt := World.block_lt_of_cell? w _ (hc j hj)
  have hb : (ad.add j).block = ad.block := by unfold Addr.add; split <;> rfl
  rw [World.cell?_of_block (h.block _ hlt (by rw [hb]; exact hn ad hA))]
  exact hc j hj
theorem Fr.reads {S : Nat → Prop} {w w1 : World} {k : IntKind} {A : Option Addr} {n : Nat} {xs : List Int} (h : Fr S w w1) (hr : ReadsInt w k A n xs) (hn : ∀ ad, A = some ad → ¬ S ad.block) : ReadsInt w1 k A n xs := by
  refine ⟨hr.1, hr.2.1, fun h0 => ?_⟩
  obtain ⟨ad, hA, hc⟩ := hr.2.2 h0
  refine ⟨ad, hA, fun j hj => ?_⟩
  have hlt := World.block_lt_of_cell? w _ (hc j hj)
  have hb : (ad.add j).block = ad.block := by unfold Addr.add; split <;> rfl
  rw [World.cell?_of_block (h.block _ hlt (by rw [hb]; exact hn ad hA))]
  exact hc j hj

/-- the block of a slice's own -/
def rowOf (v : Value) : Nat → Prop := fun i => v.ownBlock = some i
section
variable {P : Program} {ops : Array Oper} {Q : Exit → Act → World → Prop} {rest : List Oper} {a : Act} {o : Oper} {W : World}
/-- append of what can be read, onto a row of numbers of the call's own -/
theorem app_nums (hgd : o.guard = none) (s x : Operand) (t e : TypeId) (k : IntKind) (bytes : Nat) (ho : o.op = .call { callee := .builtin .append, args := #[s, x], argTypes := #[t, t] })
    (ht : P.underlying t = some (.slice e)) (hinfo : (P.info? e).map (fun i => (i.zero, i.size, i.bytes)) = some (some (.int k 0), 1, bytes)) (hb0 : 0 < bytes) (b0 : Nat)
    (v : Value) (xs ys : List Int) (A : Option Addr) (m c : Nat) (hs : a.eval s = v) (hx : a.eval x = .slice A m c)
    (HO : W.ownsRow b0 e 1 v xs.length (nums k xs)) (HR : ReadsInt W k A m ys) (hb : b0 ≤ W.heap.size) (hl : (xs.length + m) * bytes ≤ 140737488355328)
    (h : ∀ v1 w1, w1.ownsRow b0 e 1 v1 (xs ++ ys).length (nums k (xs ++ ys)) → Fr (rowOf v) W w1 → (v1.ownBlock = v.ownBlock ∨ ∃ b, v1.ownBlock = some b ∧ W.heap.size ≤ b) → wpList P ops Q rest (a.put o.dst v1) w1) :
    wpList P ops Q (o :: rest) a W :=
  print_append_row (w0 := W) b0 hgd s x t e k bytes ho ht hinfo hb0 v xs ys A m c hs hx HO HR (Below.refl _ _) hb hl fun v1 w1 ho1 _ hg hat =>
    h v1 w1 ho1 ((Fr.refl (rowOf v) W).grown hg (fun _ hb _ => hb)) hat
/-- the same of strings -/
theorem app_strs (hgd : o.guard = none) (s x : Operand) (t e : TypeId) (ho : o.op = .call { callee := .builtin .append, args := #[s, x], argTypes := #[t, t] })
    (ht : P.underlying t = some (.slice e)) (hinfo : (P.info? e).map (fun i => (i.zero, i.size, i.bytes)) = some (some (.string ⟨#[]⟩), 1, 16)) (b0 : Nat)
    (v : Value) (xs ys : List ByteArray) (A : Option Addr) (m c : Nat) (hs : a.eval s = v) (hx : a.eval x = .slice A m c)
    (HO : W.ownsRow b0 e 1 v xs.length (encs Value.string xs)) (HR : ReadsOf Value.string ByteArray.empty W A m ys) (hb : b0 ≤ W.heap.size) (hl : (xs.length + m) * 16 ≤ 140737488355328)
    (h : ∀ v1 w1, w1.ownsRow b0 e 1 v1 (xs ++ ys).length (encs Value.string (xs ++ ys)) → Fr (rowOf v) W w1 → (v1.ownBlock = v.ownBlock ∨ ∃ b, v1.ownBlock = some b ∧ W.heap.size ≤ b) → wpList P ops Q rest (a.put o.dst v1) w1) :
    wpList P ops Q (o :: rest) a W :=
  print_append_row_of (w0 := W) Value.string ByteArray.empty b0 hgd s x t e (.string ⟨#[]⟩) 16 ho ht hinfo rfl (by decide) (fun _ => rfl) v xs ys A m c hs hx HO HR (Below.refl _ _) hb hl fun v1 w1 ho1 _ hg hat =>
    h v1 w1 ho1 ((Fr.refl (rowOf v) W).grown hg (fun _ hb _ => hb)) hat
end
theorem size_set (w : World) (a : Addr) (u : Value) : (w.setCell a u).heap.size = w.heap.size := by simp [World.setCell]
theorem reads_nil (W : World) (k : IntKind) (A : Option Addr) : ReadsInt W k A 0 [] := ⟨rfl, by omega, fun h => by omega⟩
theorem readsOf_nil {α : Type} (enc : α → Value) (d : α) (W : World) (A : Option Addr) : ReadsOf enc d W A 0 [] := ⟨rfl, by omega, fun h => by omega⟩
theorem reads_one (W : World) (k : IntKind) (x : Int) (e : TypeId) : ReadsInt (W.alloc (.cells #[.int k x] e)) k (some ⟨W.heap.size, 0, none⟩) 1 [x] := by
  refine ⟨rfl, by omega, fun _ => ⟨_, rfl, fun j hj => ?_⟩⟩
  obtain rfl : j = 0 := by omega
  rw [add_plain]
  exact (blk_cell (blk_new W _) 0).trans rfl
theorem readsOf_one (W : World) (x : ByteArray) (e : TypeId) : ReadsOf Value.string ByteArray.empty (W.alloc (.cells #[.string x] e)) (some ⟨W.heap.size, 0, none⟩) 1 [x] := by
  refine ⟨rfl, by omega, fun _ => ⟨_, rfl, fun j hj => ?_⟩⟩
  obtain rfl : j = 0 := by omega
  rw [add_plain]
  exact (blk_cell (blk_new W _) 0).trans rfl
theorem own_old {w : World} {base : Nat} {e : TypeId} {size n : Nat} {v : Value} {xs : List Value} (h : w.ownsRow base e size v n xs) {i : Nat} (hi : rowOf v i) : base ≤ i ∧ i < w.heap.size := h.lt i hi
theorem add_succ (ad : Addr) (n : Nat) : ad.add (n + 1) = ⟨ad.block, ad.off + (n + 1), none⟩ := by unfold Addr.add; simp
theorem cell_zero {w : World} {k : IntKind} {bs : List Int} {ad : Addr} {i : Nat} {d : Int} (hr : ReadsInt w k (some ad) bs.length bs) (h : i < bs.length) (hd : rd bs (i : Int) = d) : w.cell? (ad.add i) = some (.int k d) := by
  obtain ⟨ad2, e2, hx⟩ := hr.2.2 (by omega)
  cases e2
  have hy := hx i h
  rw [← hd]
  simpa [rd] using hy
theorem cell_succ {w : World} {k : IntKind} {bs : List Int} {ad : Addr} {i : Nat} {d : Int} (hr : ReadsInt w k (some ad) bs.length bs) (h : i + 1 < bs.length) (hd : rd bs ((i + 1 : Nat) : Int) = d) : w.cell? ⟨ad.block, ad.off + (i + 1), none⟩ = some (.int k d) := by
  rw [← add_succ]
  exact cell_zero hr h hd
theorem reads_lit (W : World) (k : IntKind) (xs : List Int) (e : TypeId) (fr : Nat × Nat) (hl : xs.length ≤ 9223372036854775807) :
    ReadsInt (W.alloc (.cells (xs.map (Value.int k)).toArray e fr)) k (some ⟨W.heap.size, 0, none⟩) xs.length xs := by
  refine ⟨rfl, hl, fun _ => ⟨_, rfl, fun j hj => ?_⟩⟩
  rw [add_plain]
  have hb : (W.alloc (.cells (xs.map (Value.int k)).toArray e fr)).heap[W.heap.size]? = some (.cells (xs.map (Value.int k)).toArray e fr) := heap_alloc_new W _
  rw [cell_of_row _ _ _ _ _ _ hb]
  simp [hj]
theorem own_readsInt {w : World} {base n m c : Nat} {e : TypeId} {k : IntKind} {A : Option Addr} {xs : List Int} (h : w.ownsRow base e 1 (.slice A m c) n (nums k xs)) : ReadsInt w k A n xs := by
  obtain ⟨A1, c1, e1, hr⟩ := own_reads h
  injection e1 with e2 _ _
  rw [e2]
  exact hr
theorem own_readsOf {w : World} {base n m c : Nat} {e : TypeId} {α : Type} {enc : α → Value} {d : α} {A : Option Addr} {xs : List α} (h : w.ownsRow base e 1 (.slice A m c) n (encs enc xs)) : ReadsOf enc d w A n xs := by
  obtain ⟨A1, c1, e1, hr⟩ := own_reads_of (d := d) h
  injection e1 with e2 _ _
  rw [e2]
  exact hr
theorem reads_lt {W : World} {k : IntKind} {A : Option Addr} {xs : List Int} (h : ReadsInt W k A xs.length xs) (h0 : 0 < xs.length) : ∀ ad, A = some ad → ad.block < W.heap.size := by
  intro ad e
  obtain ⟨ad2, e2, hc⟩ := h.2.2 h0
  rw [e] at e2
  cases e2
  have := World.block_lt_of_cell? W _ (hc 0 h0)
  simpa [Addr.add] using this
end Go.Proofs.Ythhibgkgbcdjnaa.Fr
