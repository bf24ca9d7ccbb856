/- How the arguments of a law read: structs, slices of numbers, of texts, of slices of bytes; and that none of them is longer than the form's reach. -/
import Derived.Lib.SmallJoins
import Derived.Deep.Slices
import Derived.Deep.Fields
import Derived.ChangeSame
import Derived.SizedLaws
import Derived.SliceStrings
import Derived.Test.YtfkamoiamebngaaGreatDoorM01
import Derived.Test.YtfkamoiamebngaaGreatDoorM02
import Derived.Handy
import Derived.RegionTactic
import Derived.ChangeAlike
import Derived.Outline
import Derived.Deep.DeepMust
import Derived.BigQuiet
import Derived.Deep.QuietTactic
import Derived.WalkLawsBesides
import Derived.LoopN
import Derived.Laws.RangeString
import Derived.Deep.RegionHeld3
import Derived.Deep.DrawnRows
namespace Go.Proofs.YtfkamoiamebngaaGreatDoor.Openers
open Go.Joins Go.ChangeShapes Go.WideShapes Go.RowKit Go.Deep Go.Proofs.YtfkamoiamebngaaGreatDoorW.PrintWords
set_option linter.unusedVariables false

theorem open_agg8 {H : Type} {enc : TypeId × Value → H} {P : Program} {w : World} {base : Nat} {spare : Nat → Bool} {held : Bool} {r : Reach} {b0 : Nat} {t : TypeId} {f0 f1 f2 f3 f4 f5 f6 f7 : Field} {v : Value} {d : DataW H} {p : List MemPlace} (hs : P.underlying t = some (.struct #[f0, f1, f2, f3, f4, f5, f6, f7])) (hone : oneCellFields P #[f0, f1, f2, f3, f4, f5, f6, f7] = true) (hC : P.cellsOf t = 8)
    (hv : Value.okWide P w r b0 t v) (h : DataW.Trod enc P w base spare held t v d p) :
    ∃ (v0 v1 v2 v3 v4 v5 v6 v7 : Value) (y0 y1 y2 y3 y4 y5 y6 y7 : DataW H × List MemPlace) (n : Nat), v = .agg #[v0, v1, v2, v3, v4, v5, v6, v7] ∧
      DataW.trod enc P w base spare held n f0.type [v0] = some y0 ∧ DataW.trod enc P w base spare held n f1.type [v1] = some y1 ∧ DataW.trod enc P w base spare held n f2.type [v2] = some y2 ∧ DataW.trod enc P w base spare held n f3.type [v3] = some y3 ∧ DataW.trod enc P w base spare held n f4.type [v4] = some y4 ∧ DataW.trod enc P w base spare held n f5.type [v5] = some y5 ∧ DataW.trod enc P w base spare held n f6.type [v6] = some y6 ∧ DataW.trod enc P w base spare held n f7.type [v7] = some y7 := by
  obtain ⟨cs, rfl, hsz⟩ := okWide_struct hs hv
  obtain ⟨l⟩ := cs
  match l, hsz.trans hC with
  | [c0, c1, c2, c3, c4, c5, c6, c7], _ =>
    obtain ⟨fuel, hf⟩ := h
    obtain ⟨xs, n, _, hx, _, hlen, hg⟩ := DataW.trod_struct hs hf
    obtain ⟨o0, k0⟩ := hone_of hone 0 f0 rfl
    obtain ⟨o1, k1⟩ := hone_of hone 1 f1 rfl
    obtain ⟨o2, k2⟩ := hone_of hone 2 f2 rfl
    obtain ⟨o3, k3⟩ := hone_of hone 3 f3 rfl
    obtain ⟨o4, k4⟩ := hone_of hone 4 f4 rfl
    obtain ⟨o5, k5⟩ := hone_of hone 5 f5 rfl
    obtain ⟨o6, k6⟩ := hone_of hone 6 f6 rfl
    obtain ⟨o7, k7⟩ := hone_of hone 7 f7 rfl
    match xs, hlen with
    | [y0, y1, y2, y3, y4, y5, y6, y7], _ =>
      exact ⟨c0, c1, c2, c3, c4, c5, c6, c7, y0, y1, y2, y3, y4, y5, y6, y7, n, rfl, by simpa [Value.cells, o0, k0] using hg 0 f0 rfl, by simpa [Value.cells, o1, k1] using hg 1 f1 rfl, by simpa [Value.cells, o2, k2] using hg 2 f2 rfl, by simpa [Value.cells, o3, k3] using hg 3 f3 rfl, by simpa [Value.cells, o4, k4] using hg 4 f4 rfl, by simpa [Value.cells, o5, k5] using hg 5 f5 rfl, by simpa [Value.cells, o6, k6] using hg 6 f6 rfl, by simpa [Value.cells, o7, k7] using hg 7 f7 rfl⟩

/-- No part of the datum is longer than the form's reach. -/
def Light {H : Type} (P : Program) (t : TypeId) (d : DataW H) : Prop := ∀ n ∈ d.weights P t, n ≤ reachBytes
theorem light_arg {H : Type} {P : Program} {ts : List TypeId} {ds : List (DataW H)} (h : (DataW.weightsEach P ts ds).all (· ≤ reachBytes) = true) {j : Nat} {t : TypeId} {d : DataW H} (ht : ts[j]? = some t) (hd : ds[j]? = some d) : Light P t d := by
  intro n hn
  have := List.all_eq_true.1 h _ (DataW.weights_mem_each ht hd n hn)
  simpa using this
theorem weightsAll_mem {H : Type} {P : Program} {e : TypeId} : ∀ {ds : List (DataW H)} {d : DataW H}, d ∈ ds → ∀ n ∈ d.weights P e, n ∈ DataW.weightsAll P e ds
  | d0 :: ds, d, hd, n, hn => by
    simp only [DataW.weightsAll, List.mem_append]
    cases hd with
    | head => exact .inl hn
    | tail _ h => exact .inr (weightsAll_mem h n hn)
theorem light_slice {H : Type} {P : Program} {t e : TypeId} {elems spare : List (DataW H)} (h : Light P t (.slice elems spare)) (hu : P.underlying t = some (.slice e)) :
    (elems.length + spare.length) * P.bytesOf e ≤ reachBytes ∧ ∀ d ∈ elems, Light P e d := by
  refine ⟨h _ (by simp [DataW.weights, hu]), fun d hd n hn => h n ?_⟩
  simp only [DataW.weights, hu, List.mem_cons, List.mem_append]
  exact .inr (.inl (weightsAll_mem hd n hn))
theorem light_string {H : Type} {P : Program} {t : TypeId} {bytes : List UInt8} (h : Light (H := H) P t (.lit (.string bytes))) : bytes.length ≤ reachBytes := h _ (by simp [DataW.weights])

section
variable {H : Type} {enc : TypeId × Value → H} {P : Program} {W : World} {t e : TypeId} {A : Option Addr} {len cap : Nat} {d : DataW H} {ps : List MemPlace}

end
end Go.Proofs.YtfkamoiamebngaaGreatDoor.Openers

/- The small functions of the statements and of script. -/
namespace Go.Proofs.YtfkamoiamebngaaGreatDoor.ScrW
open Go.RowKit Go.Proofs.YtfkamoiamebngaaGreatDoorW.PrintWords Go.Proofs.YtfkamoiamebngaaGreatDoorW.PrintMore Go.Proofs.YtfkamoiamebngaaGreatDoor.Fr Go.Proofs.YtfkamoiamebngaaGreatDoor.ScrP Go.Proofs.YtfkamoiamebngaaGreatDoor.Openers
set_option linter.unusedVariables false
set_option linter.unusedSimpArgs false

def evV (e : Ev) : Value := .agg #[.int .i64 e.k, .int .i64 e.i, .int .i64 e.n, .string e.d]
def cfV (c : Cf) : Value := .agg #[.int .i64 c.a0, .int .i64 c.a1, .int .i64 c.a2, .int .i64 c.a3, .int .i64 c.a4, .int .i64 c.a5, .int .i64 c.a6, .int .i64 c.a7]

theorem in_calls (a b c : Int) (w : World) :
    Calls Tryz.prog 28 #[.int .i64 a, .int .i64 b, .int .i64 c] w fun e w' => e = .returned (.bool (decide (b ≤ a ∧ a ≤ c))) ∧ w' = w := by
  go_enter Tryz.func28, Tryz.ntmps28
  go_wp2
  all_goals (go_ret; refine ⟨?_, rfl⟩)
  · rename_i h
    show Ending.returned (.bool (decide (a ≤ c))) = Ending.returned (.bool (decide (b ≤ a ∧ a ≤ c)))
    congr 2
    exact decide_eq_decide.2 ⟨fun k => ⟨h, k⟩, fun k => k.2⟩
  · rename_i h
    show Ending.returned (.bool false) = _
    congr 2
    simp
    omega

theorem default_calls (w : World) : Calls Tryz.prog 20 #[] w fun e w' => e = .returned (cfV cfD) ∧ Below w.heap.size w w' := by
  go_enter Tryz.func20, Tryz.ntmps20
  go_wp2
  go_returns
  exact ⟨rfl, below_alloc (Below.refl _ _) _⟩

theorem toList_nil (d : ByteArray) : d.toList = [] ↔ d.size = 0 := by
  rw [ByteArray.toList_eq]
  constructor
  · intro h
    have := congrArg List.length h
    simpa using this
  · intro h
    apply List.eq_nil_of_length_eq_zero
    simpa using h
theorem evB_false {e : Ev} (h : ¬ ((0 ≤ e.k ∧ e.k ≤ 7) ∧ (0 ≤ e.i ∧ e.i ≤ 255) ∧ (0 ≤ e.n ∧ e.n ≤ 65536) ∧ e.d.size ≤ 4000 ∧ ((e.k = 0 ∨ e.k = 1 ∨ e.k = 2 ∨ e.k = 6) ∨ e.i = 0) ∧ ((e.k = 2 ∨ e.k = 4 ∨ e.k = 7) ∨ e.n = 0) ∧ ((e.k = 1 ∨ e.k = 3) ∨ e.d.size = 0))) : false = evB e := by
  unfold evB hasI hasN hasD
  simp only [decide_eq_true_eq]
  exact (decide_eq_false h).symm
theorem evB_of {e : Ev} {p : Prop} [Decidable p] (h : p ↔ ((0 ≤ e.k ∧ e.k ≤ 7) ∧ (0 ≤ e.i ∧ e.i ≤ 255) ∧ (0 ≤ e.n ∧ e.n ≤ 65536) ∧ e.d.size ≤ 4000 ∧ ((e.k = 0 ∨ e.k = 1 ∨ e.k = 2 ∨ e.k = 6) ∨ e.i = 0) ∧ ((e.k = 2 ∨ e.k = 4 ∨ e.k = 7) ∨ e.n = 0) ∧ ((e.k = 1 ∨ e.k = 3) ∨ e.d.size = 0))) : decide p = evB e := by
  unfold evB hasI hasN hasD
  simp only [decide_eq_true_eq]
  exact decide_eq_decide.2 h
theorem below2 (w : World) (o o' : Obj) : Below w.heap.size w ((w.alloc o).alloc o') := ((Below.refl w.heap.size w).alloc (Nat.le_refl _) o).alloc (by simp) o'

set_option maxHeartbeats 2000000 in
set_option maxRecDepth 100000 in
theorem evRight_calls (e : Ev) (w : World) : Calls Tryz.prog 33 #[evV e] w fun r w' => r = .returned (.bool (evB e)) ∧ Below w.heap.size w w' := by
  unfold evV
  have HZ := Aside0.mk (toList_nil e.d)
  go_enter Tryz.func33, Tryz.ntmps33
  go_wp2
  all_goals try (go_region <;> go_wp2)
  all_goals go_returns
  all_goals refine ⟨congrArg (fun b => Ending.returned (.bool b)) ?_, ?_⟩
  all_goals simp only [beq_iff_eq, beq_eq_false_iff_ne, HZ.out, ne_eq] at *
  all_goals first
    | (show false = evB e; exact evB_false (by omega))
    | (show decide ((e.d.size : Int) ≤ 4000) = evB e; exact evB_of (by omega))
    | (show decide (e.d.size ≤ 4000) = evB e; exact evB_of (by omega))
    | exact below2 _ _ _
    | exact below_drew1 (below2 _ _ _)
end Go.Proofs.YtfkamoiamebngaaGreatDoor.ScrW

/- number, read, three, fields, Conf.Right. -/
namespace Go.Proofs.YtfkamoiamebngaaGreatDoor.ScrW
open Go.RowKit Go.Proofs.YtfkamoiamebngaaGreatDoorW.PrintWords Go.Proofs.YtfkamoiamebngaaGreatDoorW.PrintMore Go.Proofs.YtfkamoiamebngaaGreatDoor.Fr Go.Proofs.YtfkamoiamebngaaGreatDoor.ScrP Go.Proofs.YtfkamoiamebngaaGreatDoor.Openers
set_option linter.unusedVariables false
set_option linter.unusedSimpArgs false
theorem info5 : (Tryz.prog.info? 5).map (fun i => (i.zero, i.size, i.bytes)) = some (some (.int .u8 0), 1, 1) := by kernel_rfl

set_option maxHeartbeats 1000000 in
set_option maxRecDepth 100000 in
theorem confRight_calls (c : Cf) (w : World) :
    Calls Tryz.prog 10 #[cfV c] w fun e w' => e = .returned (.bool (cfB c)) ∧ Below w.heap.size w w' := by
  unfold cfV
  go_enter Tryz.func10, Tryz.ntmps10
  go_wp2_with (first | (go_at_call 28; refine (in_calls _ _ _ _).mono ?_; rintro e w1 ⟨rfl, rfl⟩))
  all_goals go_returns
  all_goals refine ⟨congrArg (fun b => Ending.returned (.bool b)) ?_, below_alloc (Below.refl _ _) _⟩
  all_goals (rw [Bool.eq_iff_iff]; simp [cfB]; try omega)

theorem or_low (x c : Int) (h0 : 0 ≤ x) (h1 : x ≤ 65535) (h2 : 0 ≤ c) (h3 : c ≤ 255) : bits .or .i64 (x * 256) c = x * 256 + c := by
  obtain ⟨a, rfl⟩ := Int.eq_ofNat_of_zero_le h0
  obtain ⟨b, rfl⟩ := Int.eq_ofNat_of_zero_le h2
  have ha : a ≤ 65535 := by omega
  have hb : b < 2 ^ 8 := by omega
  have e1 : (BitVec.ofInt 64 ((a : Int) * 256)).toNat = a * 256 := by rw [BitVec.toNat_ofInt]; omega
  have e2 : (BitVec.ofInt 64 (b : Int)).toNat = b := by rw [BitVec.toNat_ofInt]; omega
  show IntKind.i64.wrap ((BitVec.ofInt 64 ((a : Int) * 256) ||| BitVec.ofInt 64 (b : Int)).toNat : Nat) = _
  rw [BitVec.toNat_or, e1, e2]
  have h := Nat.shiftLeft_add_eq_or_of_lt hb a
  have e3 : a <<< 8 = a * 256 := Nat.shiftLeft_eq a 8
  rw [e3] at h
  rw [← h, IntKind.wrap_i64]
  omega
theorem rdN_take (bs : List Int) (k : Nat) (h : k < bs.length) : rdN (bs.take (k + 1)) = rdN (bs.take k) * 256 + bs.getD k 0 := by
  have hg : bs.getD k 0 = bs[k] := by simp [h]
  rw [List.take_succ_eq_append_getElem h, hg]
  unfold rdN
  rw [List.foldl_append]
  rfl
theorem rdN_bound (bs : List Int) (hb : isB bs) (h3 : bs.length ≤ 3) (k : Nat) (hk : k < bs.length) : 0 ≤ rdN (bs.take k) ∧ rdN (bs.take k) ≤ 65535 := by
  match bs, h3 with
  | [], _ => simp at hk
  | [a], _ => obtain rfl : k = 0 := by simpa using hk
              simp [rdN]
  | [a, b], _ =>
    have h0 := hb a (by simp)
    have hk2 : k < 2 := hk
    obtain rfl | rfl : k = 0 ∨ k = 1 := by omega
    · simp [rdN]
    · simp [rdN]; omega
  | [a, b, c], _ =>
    have h0 := hb a (by simp)
    have h1 := hb b (by simp)
    have hk2 : k < 3 := hk
    obtain rfl | rfl | rfl : k = 0 ∨ k = 1 ∨ k = 2 := by omega
    · simp [rdN]
    · simp [rdN]; omega
    · simp [rdN]; omega

theorem read_calls (bs : List Int) (A : Option Addr) (cp : Nat) (w : World) (hr : ReadsInt w .u8 A bs.length bs) (hb : isB bs) (hl : bs.length ≤ 3) :
    Calls Tryz.prog 72 #[.slice A bs.length cp] w fun e w' => e = .returned (.int .i64 (rdN bs)) ∧ w' = w := by
  have HR := Aside0.mk hr
  have HB := Aside0.mk hb
  clear hr hb
  go_enter Tryz.func72, Tryz.ntmps72
  go_wp2
  go_loopw [3, 8] (fun v3 v8 wr => ∃ k : Nat, v8 = .int .i64 k ∧ k ≤ bs.length ∧ v3 = .int .i64 (rdN (bs.take k)) ∧ wr = w) (fun _ i _ => bs.length - (intOf i).toNat)
  case atStart => exact ⟨0, rfl, Nat.zero_le _, rfl, rfl⟩
  case round =>
    obtain ⟨k, rfl, hk, rfl, rfl⟩ := hrel
    by_cases hlt : k < bs.length
    · obtain ⟨ad, rfl, hcells⟩ := HR.out.2.2 (by omega)
      obtain ⟨c, hc⟩ : ∃ c, bs.getD k 0 = c := ⟨_, rfl⟩
      have hcell := hcells k hlt
      rw [hc] at hcell
      have hcb : 0 ≤ c ∧ c ≤ 255 := by
        rw [← hc]
        have : bs.getD k 0 = bs[k] := by simp [hlt]
        rw [this]; exact HB.out _ (List.getElem_mem hlt)
      have hx := rdN_bound bs HB.out hl k hlt
      have HE := Aside0.mk (rdN_take bs k hlt)
      rw [hc] at HE
      obtain ⟨x, hx2⟩ : ∃ x, rdN (bs.take k) = x := ⟨_, rfl⟩
      rw [hx2] at hx HE ⊢
      have hor := or_low x c hx.1 hx.2 hcb.1 hcb.2
      clear hcells hc hx2
      go_wp2
      case roundEnd =>
        refine ⟨⟨k + 1, by push_cast; rfl, hlt, by rw [HE.out], trivial⟩, ?_⟩
        simp only [intOf]
        omega
    · obtain hk2 : k = bs.length := by omega
      have HE := Aside0.mk (show rdN (bs.take k) = rdN bs by rw [hk2, List.take_length])
      rw [HE.out]
      clear hk2
      go_wp2
      go_returns
      exact ⟨rfl, rfl⟩

theorem fields_calls (g : Nat) (w : World) :
    Calls Tryz.prog 46 #[.pointer (some ⟨g, 0, none⟩)] w fun e w' => e = .returned (.slice (some ⟨w.heap.size, 0, none⟩) 8 8) ∧ w' = World.drew (w.alloc (Obj.cells #[.pointer (some ⟨g, 0, none⟩), .pointer (some ⟨g, 1, none⟩), .pointer (some ⟨g, 2, none⟩), .pointer (some ⟨g, 3, none⟩), .pointer (some ⟨g, 4, none⟩), .pointer (some ⟨g, 5, none⟩), .pointer (some ⟨g, 6, none⟩), .pointer (some ⟨g, 7, none⟩)] 97)) := by
  go_enter Tryz.func46, Tryz.ntmps46
  go_wp2
  go_region
  go_wp2
  go_returns
  exact ⟨rfl, rfl⟩
end Go.Proofs.YtfkamoiamebngaaGreatDoor.ScrW


/-! ### 58. A guarded operation whose guard is known to want it: the same goal without the guard -/
namespace Go.Proofs.YtfkamoiamebngaaGreatDoorW.PrintWords
open Go.RowKit
section
variable {P : Program} {ops : Array Oper} {rest : List Oper} {o : Oper} {a : Act} {Q : Exit → Act → World → Prop} {W : World}
end
end Go.Proofs.YtfkamoiamebngaaGreatDoorW.PrintWords

/- number: a number's bytes behind others. -/
namespace Go.Proofs.YtfkamoiamebngaaGreatDoor.ScrW
open Go.RowKit Go.Proofs.YtfkamoiamebngaaGreatDoorW.PrintWords Go.Proofs.YtfkamoiamebngaaGreatDoorW.PrintMore Go.Proofs.YtfkamoiamebngaaGreatDoor.Fr Go.Proofs.YtfkamoiamebngaaGreatDoor.ScrP Go.Proofs.YtfkamoiamebngaaGreatDoor.Openers
set_option linter.unusedVariables false
set_option linter.unusedSimpArgs false

/-- the row lies where the other lay, or is new -/
def AtRow (w : World) (v1 v0 : Value) : Prop := v1.ownBlock = v0.ownBlock ∨ ∃ b, v1.ownBlock = some b ∧ w.heap.size ≤ b
theorem num_step {S : Nat → Prop} {w w1 w2 : World} {base : Nat} {v v1 : Value} {e : TypeId} {size n : Nat} {xs : List Value} {o : Obj} (h : Fr S w w1) (hr : w1.ownsRow base e size v n xs) (ht : AtRow w v v1) (hf : Fr (rowOf v) (w1.alloc o) w2) (hb : base ≤ w.heap.size) (hS : ∀ i, rowOf v1 i → S i) : Fr S w w2 :=
  (h.alloc o).trans hf fun i hi hs => by
    rcases ht with ht | ⟨b, hb1, hb2⟩
    · exact hS i (by unfold rowOf at *; rw [← ht]; exact hs)
    · have : b = i := by unfold rowOf at hs; rw [hb1] at hs; exact Option.some.inj hs
      omega
theorem num_at {S : Nat → Prop} {w w1 : World} {v v1 v2 : Value} {o : Obj} (h : Fr S w w1) (ht : AtRow w v v2) (hat : v1.ownBlock = v.ownBlock ∨ ∃ b, v1.ownBlock = some b ∧ (w1.alloc o).heap.size ≤ b) : AtRow w v1 v2 := by
  rcases hat with hat | ⟨b, hb1, hb2⟩
  · unfold AtRow at *; rw [hat]; exact ht
  · have h1 := h.size
    simp at hb2
    exact .inr ⟨b, hb1, by omega⟩

set_option maxHeartbeats 2000000 in
set_option maxRecDepth 100000 in
theorem number3_calls (n : Int) (h0 : 0 ≤ n) (h1 : n ≤ 65536) (base : Nat) (A : Option Addr) (cp : Nat) (xs : List Int) (w : World) (hb : base ≤ w.heap.size) (hl : xs.length ≤ 1000000)
    (ho : w.ownsRow base 5 1 (.slice A xs.length cp) xs.length (nums .u8 xs)) :
    Calls Tryz.prog 47 #[.slice A xs.length cp, .int .i64 n, .int .i64 3] w fun e w' => ∃ v1, e = .returned v1 ∧ w'.ownsRow base 5 1 v1 (xs ++ be3 n).length (nums .u8 (xs ++ be3 n)) ∧ Fr (rowOf (.slice A xs.length cp)) w w' ∧ AtRow w v1 (.slice A xs.length cp) := by
  have HO0 := Aside0.mk ho
  have HF0 : Aside0 (Fr (rowOf (.slice A xs.length cp)) w w) := ⟨Fr.refl _ _⟩
  have HT0 : Aside0 (AtRow w (.slice A xs.length cp) (.slice A xs.length cp)) := ⟨.inl rfl⟩
  clear ho
  go_enter Tryz.func47, Tryz.ntmps47
  go_wp2
  refine wp_loop_rounds 4 ?_
  obtain ⟨x1, hx1⟩ : ∃ x, x = xs ++ [n / 65536] := ⟨_, rfl⟩
  have hlx1 : x1.length ≤ xs.length + 1 := by rw [hx1]; simp
  have HX1 := Aside0.mk hx1
  clear hx1
  rw [rounds_succ]
  go_wp2_with (first | ((with_reducible refine gate_builtin (b := .append) (xs := #[.tmp 14, .tmp 20]) rfl ?_); at_builtin; refine app_nums rfl (.tmp 14) (.tmp 20) 29 5 .u8 1 rfl Tryz.underlying29 info5 (by decide) base (.slice A xs.length cp) xs [n / 65536] _ 1 1 rfl rfl ?aO ?aR ?aB ?aL ?_; (case aO => exact HO0.out.alloc _); (case aR => exact reads_one w .u8 (n / 65536) 5); (case aB => exact (by rw [World.size_alloc]; omega)); (case aL => exact (by omega)); intro v1 w1 ho1 hf1 hat1; rw [← HX1.out] at ho1; obtain ⟨A1, c1, rfl⟩ := own_slice ho1; have HO1 := Aside0.mk ho1; have HF1 := Aside0.mk (num_step HF0.out HO0.out HT0.out hf1 hb (fun _ h => h)); have HT1 := Aside0.mk (num_at HF0.out HT0.out hat1); have hs1 : w.heap.size ≤ w1.heap.size := (by have h9 := hf1.size; rw [World.size_alloc] at h9; omega); clear ho1 hf1 hat1))
  obtain ⟨x2, hx2⟩ : ∃ x, x = x1 ++ [n / 256 % 256] := ⟨_, rfl⟩
  have hlx2 : x2.length ≤ x1.length + 1 := by rw [hx2]; simp
  have HX2 := Aside0.mk hx2
  clear hx2
  rw [rounds_succ]
  go_wp2_with (first | ((with_reducible refine gate_builtin (b := .append) (xs := #[.tmp 14, .tmp 20]) rfl ?_); at_builtin; refine app_nums rfl (.tmp 14) (.tmp 20) 29 5 .u8 1 rfl Tryz.underlying29 info5 (by decide) base (.slice A1 x1.length c1) x1 [n / 256 % 256] _ 1 1 rfl rfl ?aO ?aR ?aB ?aL ?_; (case aO => exact HO1.out.alloc _); (case aR => exact reads_one w1 .u8 (n / 256 % 256) 5); (case aB => exact (by rw [World.size_alloc]; omega)); (case aL => exact (by omega)); intro v2 w2 ho1 hf1 hat1; rw [← HX2.out] at ho1; obtain ⟨A2, c2, rfl⟩ := own_slice ho1; have HO2 := Aside0.mk ho1; have HF2 := Aside0.mk (num_step HF1.out HO1.out HT1.out hf1 hb (fun _ h => h)); have HT2 := Aside0.mk (num_at HF1.out HT1.out hat1); have hs2 : w1.heap.size ≤ w2.heap.size := (by have h9 := hf1.size; rw [World.size_alloc] at h9; omega); clear ho1 hf1 hat1))
  obtain ⟨x3, hx3⟩ : ∃ x, x = x2 ++ [n % 256] := ⟨_, rfl⟩
  have hlx3 : x3.length ≤ x2.length + 1 := by rw [hx3]; simp
  have HX3 := Aside0.mk hx3
  clear hx3
  rw [rounds_succ]
  go_wp2_with (first | ((with_reducible refine gate_builtin (b := .append) (xs := #[.tmp 14, .tmp 20]) rfl ?_); at_builtin; refine app_nums rfl (.tmp 14) (.tmp 20) 29 5 .u8 1 rfl Tryz.underlying29 info5 (by decide) base (.slice A2 x2.length c2) x2 [n % 256] _ 1 1 rfl rfl ?aO ?aR ?aB ?aL ?_; (case aO => exact HO2.out.alloc _); (case aR => exact reads_one w2 .u8 (n % 256) 5); (case aB => exact (by rw [World.size_alloc]; omega)); (case aL => exact (by omega)); intro v3 w3 ho1 hf1 hat1; rw [← HX3.out] at ho1; obtain ⟨A3, c3, rfl⟩ := own_slice ho1; have HO3 := Aside0.mk ho1; have HF3 := Aside0.mk (num_step HF2.out HO2.out HT2.out hf1 hb (fun _ h => h)); have HT3 := Aside0.mk (num_at HF2.out HT2.out hat1); have hs3 : w2.heap.size ≤ w3.heap.size := (by have h9 := hf1.size; rw [World.size_alloc] at h9; omega); clear ho1 hf1 hat1))
  rw [rounds_succ]
  go_wp2
  go_returns
  have hfin : x3 = xs ++ be3 n := by
    rw [HX3.out, HX2.out, HX1.out]
    unfold be3
    rw [show n / 65536 % 256 = n / 65536 by omega]
    simp
  have h1 := HO3.out
  rw [hfin] at h1
  exact ⟨_, rfl, by rw [hfin]; exact h1, HF3.out, HT3.out⟩

set_option maxHeartbeats 2000000 in
set_option maxRecDepth 100000 in
theorem number2_calls (n : Int) (h0 : 0 ≤ n) (h1 : n ≤ 65535) (base : Nat) (A : Option Addr) (cp : Nat) (xs : List Int) (w : World) (hb : base ≤ w.heap.size) (hl : xs.length ≤ 1000000)
    (ho : w.ownsRow base 5 1 (.slice A xs.length cp) xs.length (nums .u8 xs)) :
    Calls Tryz.prog 47 #[.slice A xs.length cp, .int .i64 n, .int .i64 2] w fun e w' => ∃ v1, e = .returned v1 ∧ w'.ownsRow base 5 1 v1 (xs ++ be2 n).length (nums .u8 (xs ++ be2 n)) ∧ Fr (rowOf (.slice A xs.length cp)) w w' ∧ AtRow w v1 (.slice A xs.length cp) := by
  have HO0 := Aside0.mk ho
  have HF0 : Aside0 (Fr (rowOf (.slice A xs.length cp)) w w) := ⟨Fr.refl _ _⟩
  have HT0 : Aside0 (AtRow w (.slice A xs.length cp) (.slice A xs.length cp)) := ⟨.inl rfl⟩
  clear ho
  go_enter Tryz.func47, Tryz.ntmps47
  go_wp2
  refine wp_loop_rounds 3 ?_
  obtain ⟨x1, hx1⟩ : ∃ x, x = xs ++ [n / 256] := ⟨_, rfl⟩
  have hlx1 : x1.length ≤ xs.length + 1 := by rw [hx1]; simp
  have HX1 := Aside0.mk hx1
  clear hx1
  rw [rounds_succ]
  go_wp2_with (first | ((with_reducible refine gate_builtin (b := .append) (xs := #[.tmp 14, .tmp 20]) rfl ?_); at_builtin; refine app_nums rfl (.tmp 14) (.tmp 20) 29 5 .u8 1 rfl Tryz.underlying29 info5 (by decide) base (.slice A xs.length cp) xs [n / 256] _ 1 1 rfl rfl ?aO ?aR ?aB ?aL ?_; (case aO => exact HO0.out.alloc _); (case aR => exact reads_one w .u8 (n / 256) 5); (case aB => exact (by rw [World.size_alloc]; omega)); (case aL => exact (by omega)); intro v1 w1 ho1 hf1 hat1; rw [← HX1.out] at ho1; obtain ⟨A1, c1, rfl⟩ := own_slice ho1; have HO1 := Aside0.mk ho1; have HF1 := Aside0.mk (num_step HF0.out HO0.out HT0.out hf1 hb (fun _ h => h)); have HT1 := Aside0.mk (num_at HF0.out HT0.out hat1); have hs1 : w.heap.size ≤ w1.heap.size := (by have h9 := hf1.size; rw [World.size_alloc] at h9; omega); clear ho1 hf1 hat1))
  obtain ⟨x2, hx2⟩ : ∃ x, x = x1 ++ [n % 256] := ⟨_, rfl⟩
  have hlx2 : x2.length ≤ x1.length + 1 := by rw [hx2]; simp
  have HX2 := Aside0.mk hx2
  clear hx2
  rw [rounds_succ]
  go_wp2_with (first | ((with_reducible refine gate_builtin (b := .append) (xs := #[.tmp 14, .tmp 20]) rfl ?_); at_builtin; refine app_nums rfl (.tmp 14) (.tmp 20) 29 5 .u8 1 rfl Tryz.underlying29 info5 (by decide) base (.slice A1 x1.length c1) x1 [n % 256] _ 1 1 rfl rfl ?aO ?aR ?aB ?aL ?_; (case aO => exact HO1.out.alloc _); (case aR => exact reads_one w1 .u8 (n % 256) 5); (case aB => exact (by rw [World.size_alloc]; omega)); (case aL => exact (by omega)); intro v2 w2 ho1 hf1 hat1; rw [← HX2.out] at ho1; obtain ⟨A2, c2, rfl⟩ := own_slice ho1; have HO2 := Aside0.mk ho1; have HF2 := Aside0.mk (num_step HF1.out HO1.out HT1.out hf1 hb (fun _ h => h)); have HT2 := Aside0.mk (num_at HF1.out HT1.out hat1); have hs2 : w1.heap.size ≤ w2.heap.size := (by have h9 := hf1.size; rw [World.size_alloc] at h9; omega); clear ho1 hf1 hat1))
  rw [rounds_succ]
  go_wp2
  go_returns
  have hfin : x2 = xs ++ be2 n := by
    rw [HX2.out, HX1.out]
    unfold be2
    rw [show n / 256 % 256 = n / 256 by omega]
    simp
  have h1 := HO2.out
  rw [hfin] at h1
  exact ⟨_, rfl, by rw [hfin]; exact h1, HF2.out, HT2.out⟩

end Go.Proofs.YtfkamoiamebngaaGreatDoor.ScrW

/- What the statements' own Right answers of an event. -/
namespace Go.Proofs.YtfkamoiamebngaaGreatDoor.ScrW
open Go.RowKit Go.Proofs.YtfkamoiamebngaaGreatDoorW.PrintWords Go.Proofs.YtfkamoiamebngaaGreatDoorW.PrintMore Go.Proofs.YtfkamoiamebngaaGreatDoor.Fr Go.Proofs.YtfkamoiamebngaaGreatDoor.ScrP Go.Proofs.YtfkamoiamebngaaGreatDoor.Openers
set_option linter.unusedVariables false
set_option linter.unusedSimpArgs false

end Go.Proofs.YtfkamoiamebngaaGreatDoor.ScrW

/- How a row of events lies in memory; Few, Same. -/
namespace Go.Proofs.YtfkamoiamebngaaGreatDoor.ScrW
open Go.RowKit Go.Proofs.YtfkamoiamebngaaGreatDoorW.PrintWords Go.Proofs.YtfkamoiamebngaaGreatDoorW.PrintMore Go.Proofs.YtfkamoiamebngaaGreatDoor.Fr Go.Proofs.YtfkamoiamebngaaGreatDoor.ScrP Go.Proofs.YtfkamoiamebngaaGreatDoor.Openers
set_option linter.unusedVariables false
set_option linter.unusedSimpArgs false

/-- A slice of events that can be read. -/
def ReadsEv (W : World) (A : Option Addr) (L : List Ev) : Prop :=
  L.length ≤ 140737488351232 ∧ (0 < L.length → ∃ ad, A = some ad ∧ ∀ j, j < L.length → W.cell? (ad.add (j * 4)) = some (.int .i64 (L.getD j ev0).k) ∧ W.cell? (ad.add (j * 4 + 1)) = some (.int .i64 (L.getD j ev0).i) ∧ W.cell? (ad.add (j * 4 + 2)) = some (.int .i64 (L.getD j ev0).n) ∧ W.cell? (ad.add (j * 4 + 3)) = some (.string (L.getD j ev0).d) ∧ (L.getD j ev0).d.size ≤ 140737488351232)

def sz (L : List Ev) : Nat := (L.map fun e => e.d.size).sum
theorem sz_take (L : List Ev) (k : Nat) (h : k < L.length) (e : Ev) (he : L.getD k ev0 = e) : sz (L.take (k + 1)) = sz (L.take k) + e.d.size := by
  have : L.take (k + 1) = L.take k ++ [e] := by
    rw [List.take_succ_eq_append_getElem h, ← he]
    simp [h]
  rw [this]
  unfold sz
  simp only [List.map_append, List.sum_append, List.map_cons, List.map_nil, List.sum_cons, List.sum_nil, Nat.add_zero]

end Go.Proofs.YtfkamoiamebngaaGreatDoor.ScrW

/- one: the event with which bytes begin. -/
namespace Go.Proofs.YtfkamoiamebngaaGreatDoor.ScrW
open Go.RowKit Go.Proofs.YtfkamoiamebngaaGreatDoorW.PrintWords Go.Proofs.YtfkamoiamebngaaGreatDoorW.PrintMore Go.Proofs.YtfkamoiamebngaaGreatDoor.Fr Go.Proofs.YtfkamoiamebngaaGreatDoor.ScrP Go.Proofs.YtfkamoiamebngaaGreatDoor.Openers
set_option linter.unusedVariables false
set_option linter.unusedSimpArgs false

theorem set4 {w1 : World} {g : Nat} {x0 x1 x2 x3 : Value} {T : TypeId} (hB : w1.heap[g]? = some (.cells #[x0, x1, x2, x3] T (0, 0))) (v0 v1 v2 v3 : Value) :
    ∃ W4, W4 = (((w1.setCell ⟨g, 0, none⟩ v0).setCell ⟨g, 1, none⟩ v1).setCell ⟨g, 2, none⟩ v2).setCell ⟨g, 3, none⟩ v3 ∧ W4.cell? ⟨g, 0, none⟩ = some v0 ∧ W4.cell? ⟨g, 1, none⟩ = some v1 ∧ W4.cell? ⟨g, 2, none⟩ = some v2 ∧ W4.cell? ⟨g, 3, none⟩ = some v3 := by
  have h := blk_set (blk_set (blk_set (blk_set hB 0 v0) 1 v1) 2 v2) 3 v3
  exact ⟨_, rfl, (blk_cell h 0).trans rfl, (blk_cell h 1).trans rfl, (blk_cell h 2).trans rfl, (blk_cell h 3).trans rfl⟩

set_option maxHeartbeats 2000000 in
set_option maxRecDepth 100000 in
theorem one_calls (bs : List Int) (A : Option Addr) (cp : Nat) (w : World) (hc : bs.length ≤ cp) (hcm : cp ≤ 9223372036854775807) (hr : ReadsInt w .u8 A bs.length bs) (hb : isB bs) :
    Calls Tryz.prog 73 #[.slice A bs.length cp] w fun e w' => e = .returned (.tuple #[evV (oneP bs).1, .int .i64 (oneP bs).2.1, .int .i64 (oneP bs).2.2]) ∧ Fr nope w w' := by
  have HR := Aside0.mk hr
  have HB := Aside0.mk hb
  clear hr hb
  by_cases h7 : bs.length < 7
  · have HE : Aside0 (oneP bs = (ev0, 0, 5)) := ⟨by unfold oneP; rw [if_pos h7]⟩
    go_enter Tryz.func73, Tryz.ntmps73
    go_wp2
    go_returns
    rw [HE.out]
    exact ⟨rfl, (Fr.refl _ _).alloc _⟩
  · obtain ⟨i5, hi5, hz5⟩ := Option.map_eq_some_iff.1 info5
    simp only [Prod.mk.injEq] at hz5
    obtain ⟨A1, hs1, hr1, hl1⟩ := print_mid_int (P := Tryz.prog) (k := .u8) 29 5 Tryz.underlying29 hi5 hz5.2.1 A cp bs 5 7 (by decide) (by decide) (by omega) hc
    obtain ⟨m1, hm1⟩ : ∃ l, l = (bs.take (7 : Int).toNat).drop (5 : Int).toNat := ⟨_, rfl⟩
    rw [← hm1] at hs1 hr1 hl1
    have hlen1 : m1.length = 2 := by rw [hm1]; simp; omega
    have HL1 := Aside0.mk hlen1
    have HR1 := Aside0.mk (hr1 w HR.out)
    have HM1 := Aside0.mk hm1
    clear hm1 hlen1 hz5 hi5
    have hb1 : isB m1 := fun x hx => HB.out x (List.mem_of_mem_take (List.mem_of_mem_drop (by rw [← HM1.out]; exact hx)))
    have HB1 := Aside0.mk hb1
    clear hb1
    obtain ⟨n, hn⟩ : ∃ n, n = rdN m1 := ⟨_, rfl⟩
    have hnb : 0 ≤ n ∧ n ≤ 65535 := by
      match m1, HL1.out with
      | [a, b], _ =>
        have ha := HB1.out a (by simp)
        have hb := HB1.out b (by simp)
        rw [hn]; simp [rdN]; omega
    have HN := Aside0.mk hn
    clear hn
    have hnr : (rdN ((bs.take 7).drop 5)) = n := by rw [HN.out, HM1.out]; rfl
    have HNR := Aside0.mk hnr
    clear hnr
    by_cases hsh : (bs.length : Int) < 7 + n
    · have HE : Aside0 (oneP bs = (ev0, 0, 5)) := ⟨by unfold oneP; rw [if_neg h7, HNR.out]; simp only []; rw [if_pos (by omega)]⟩
      go_enter Tryz.func73, Tryz.ntmps73
      go_wp2_with (first | (go_at_call 72; refine (read_calls m1 A1 _ _ (((Fr.refl nope w).alloc _).reads HR1.out (fun _ _ h => h)) HB1.out (by rw [HL1.out]; decide)).mono ?_; rintro e w1 ⟨rfl, rfl⟩; rw [← HN.out]))
      go_returns
      rw [HE.out]
      exact ⟨rfl, (Fr.refl _ _).alloc _⟩
    · obtain ⟨ad, hAd, hcells⟩ := HR.out.2.2 (by omega)
      obtain ⟨b0, hb0⟩ : ∃ c, bs.getD 0 0 = c := ⟨_, rfl⟩
      obtain ⟨b1, hb1⟩ : ∃ c, bs.getD 1 0 = c := ⟨_, rfl⟩
      have d0 := hcells 0 (by omega)
      have d1 := hcells 1 (by omega)
      rw [hb0] at d0
      rw [hb1] at d1
      have d1b := d1
      rw [show (1 : Nat) = 0 + 1 from rfl, add_succ] at d1b
      have d0b : w.cell? ad = some (.int .u8 b0) := by rw [← d0]; simp [Addr.add]
      subst hAd
      obtain ⟨i5, hi5, hz5⟩ := Option.map_eq_some_iff.1 info5
      simp only [Prod.mk.injEq] at hz5
      obtain ⟨A2, hs2, hr2, hl2⟩ := print_mid_int (P := Tryz.prog) (k := .u8) 29 5 Tryz.underlying29 hi5 hz5.2.1 (some ad) cp bs 2 5 (by decide) (by decide) (by omega) hc
      obtain ⟨A3, hs3, hr3, hl3⟩ := print_mid_int (P := Tryz.prog) (k := .u8) 29 5 Tryz.underlying29 hi5 hz5.2.1 (some ad) cp bs 7 (7 + n) (by decide) (by omega) (by omega) hc
      obtain ⟨m2, hm2⟩ : ∃ l, l = (bs.take (5 : Int).toNat).drop (2 : Int).toNat := ⟨_, rfl⟩
      obtain ⟨m3, hm3⟩ : ∃ l, l = (bs.take (7 + n).toNat).drop (7 : Int).toNat := ⟨_, rfl⟩
      rw [← hm2] at hs2 hr2 hl2
      rw [← hm3] at hs3 hr3 hl3
      have HM2 := Aside0.mk hm2
      have HM3 := Aside0.mk hm3
      have HL2 : Aside0 (m2.length ≤ 3) := ⟨by rw [hm2]; simp; omega⟩
      have HB2 : Aside0 (isB m2) := ⟨fun x hx => HB.out x (List.mem_of_mem_take (List.mem_of_mem_drop (by rw [← hm2]; exact hx)))⟩
      have HR2 := Aside0.mk (hr2 w HR.out)
      have HR3 := Aside0.mk (hr3 w HR.out)
      have hcv : ∀ w1, ReadsInt w1 .u8 A3 m3.length m3 → (convert 29 9 (.slice A3 m3.length (cp - 7))).run Tryz.prog w1 = .ok (.string (strOfNums m3)) w1 := fun w1 h => string_of_reads (P := Tryz.prog) (c := cp - 7) Tryz.underlying29 Tryz.underlying5 Tryz.underlying9 h
      have HCV := Aside0.mk hcv
      clear hcv
      clear hr1 hr2 hr3 hm2 hm3 hcells hi5 hz5
      have d1c : w.cell? ⟨ad.block, ad.off + 1, none⟩ = some (.int .u8 b1) := d1b
      have HK : Aside0 (∀ w', Fr nope w w' → Fr nope w w' ∧ w'.cell? ad = some (.int .u8 b0) ∧ w'.cell? ⟨ad.block, ad.off + 1, none⟩ = some (.int .u8 b1) ∧ Aside0 (ReadsInt w' .u8 A2 m2.length m2) ∧ (convert 29 9 (.slice A3 m3.length (cp - 7))).run Tryz.prog w' = .ok (.string (strOfNums m3)) w') :=
        ⟨fun w' hF => by
          have up : ∀ {a : Addr} {v : Value}, w.cell? a = some v → w'.cell? a = some v := fun h => by
            rw [World.cell?_of_block (hF.block _ (World.block_lt_of_cell? w _ h) (fun h => h))]; exact h
          exact ⟨hF, up d0b, up d1c, ⟨hF.reads HR2.out (fun _ _ h => h)⟩, HCV.out _ (hF.reads HR3.out (fun _ _ h => h))⟩⟩
      clear d0 d1 d1b d0b d1c
      have q0n : 0 < bs.length := by omega
      have q1n : 1 < bs.length := by omega
      have hb0r : 0 ≤ b0 ∧ b0 ≤ 255 := by
        rw [← hb0, show bs.getD 0 0 = bs[0]'(by omega) by simp [q0n]]
        exact HB.out _ (List.getElem_mem _)
      have hb1r : 0 ≤ b1 ∧ b1 ≤ 255 := by
        rw [← hb1, show bs.getD 1 0 = bs[1]'(by omega) by simp [q1n]]
        exact HB.out _ (List.getElem_mem _)
      have hw0 : IntKind.i64.wrap b0 = b0 := by rw [IntKind.wrap_i64]; omega
      have hw1 : IntKind.i64.wrap b1 = b1 := by rw [IntKind.wrap_i64]; omega
      have HBE := Aside0.mk (And.intro hb0 hb1)
      clear hb0 hb1
      have hwr : IntKind.i64.wrap (7 + n) = 7 + n := by rw [IntKind.wrap_i64]; omega
      have q0 : (0 : Int) < (bs.length : Int) := by omega
      have q1 : (1 : Int) < (bs.length : Int) := by omega
      have HONE : Aside0 (oneP bs = if evB ⟨b0, b1, rdN m2, strOfNums m3⟩ then (⟨b0, b1, rdN m2, strOfNums m3⟩, 7 + n.toNat, 0) else (ev0, 0, 8)) := ⟨by
        have e5 : m2 = (bs.take 5).drop 2 := HM2.out
        have e7 : m3 = (bs.take (7 + n.toNat)).drop 7 := by rw [HM3.out, show (7 + n).toNat = 7 + n.toNat by omega]; rfl
        unfold oneP
        rw [if_neg h7, HNR.out]
        simp only []
        rw [if_neg (by omega), HBE.out.1, HBE.out.2, ← e5, ← e7]⟩
      have hnn : ((n.toNat : Nat) : Int) = n := by omega
      have HNN := Aside0.mk hnn
      clear hnn
      go_enter Tryz.func73, Tryz.ntmps73
      go_wp2_with (first | (go_at_call 72; refine (read_calls m1 A1 _ _ (((Fr.refl nope w).alloc _).reads HR1.out (fun _ _ h => h)) HB1.out (by rw [HL1.out]; decide)).mono ?_; rintro e w1 ⟨rfl, rfl⟩; rw [← HN.out]))
      have HF0 : Fr nope w (w.alloc (.cells #[.int .i64 0, .int .i64 0, .int .i64 0, .string ⟨#[]⟩] 33)) := (Fr.refl nope w).alloc _
      go_region_held3 (fun w' => Fr nope w w' ∧ w'.cell? ad = some (.int .u8 b0) ∧ w'.cell? ⟨ad.block, ad.off + 1, none⟩ = some (.int .u8 b1) ∧ Aside0 (ReadsInt w' .u8 A2 m2.length m2) ∧ (convert 29 9 (.slice A3 m3.length (cp - 7))).run Tryz.prog w' = .ok (.string (strOfNums m3)) w')
        (first | exact HK.out _ (Fr.drew (by assumption)) | exact HK.out _ (Fr.alloc (by assumption) _) | exact HK.out _ (by assumption) | exact HK.out _ (Fr.alloc (Fr.drew (by assumption)) _))
        (first | (go_at_call 72; refine (read_calls m2 A2 _ _ (by first | exact ((HF0.alloc _).drew).reads HR2.out (fun _ _ h => h) | exact HF0.drew.reads HR2.out (fun _ _ h => h)) HB2.out HL2.out).mono ?_; rintro e w1 ⟨rfl, rfl⟩))
      all_goals clear HF0
      all_goals go_wp2_with (first | (go_at_call 33; refine (evRight_calls ⟨b0, b1, rdN m2, strOfNums m3⟩ _).mono ?_; rintro e w1 ⟨rfl, hw1⟩; have hB := blk_below (blk_drew (blk_alloc (blk_new w (.cells #[.int .i64 0, .int .i64 0, .int .i64 0, .string ⟨#[]⟩] 33)) (.cells #[.int .i64 b0, .int .i64 b1, .int .i64 (rdN m2), .string (strOfNums m3)] 33))) hw1; have hE := blk_below (blk_drew (show ((w.alloc (.cells #[.int .i64 0, .int .i64 0, .int .i64 0, .string ⟨#[]⟩] 33)).alloc (.cells #[.int .i64 b0, .int .i64 b1, .int .i64 (rdN m2), .string (strOfNums m3)] 33)).heap[w.heap.size + 1]? = _ from (by rw [← World.size_alloc w (.cells #[.int .i64 0, .int .i64 0, .int .i64 0, .string ⟨#[]⟩] 33)]; exact blk_new _ _))) hw1; have c0 : w1.cell? ⟨w.heap.size, 0, none⟩ = _ := (blk_cell hB 0).trans rfl; have c1 : w1.cell? ⟨w.heap.size, 1, none⟩ = _ := (blk_cell hB 1).trans rfl; have c2 : w1.cell? ⟨w.heap.size, 2, none⟩ = _ := (blk_cell hB 2).trans rfl; have c3 : w1.cell? ⟨w.heap.size, 3, none⟩ = _ := (blk_cell hB 3).trans rfl; have f0 := blk_frozen hB 0; have f1 := blk_frozen hB 1; have f2 := blk_frozen hB 2; have f3 := blk_frozen hB 3; have g0 : w1.cell? ⟨w.heap.size + 1, 0, none⟩ = _ := (blk_cell hE 0).trans rfl; have g1 : w1.cell? ⟨w.heap.size + 1, 1, none⟩ = _ := (blk_cell hE 1).trans rfl; have g2 : w1.cell? ⟨w.heap.size + 1, 2, none⟩ = _ := (blk_cell hE 2).trans rfl; have g3 : w1.cell? ⟨w.heap.size + 1, 3, none⟩ = _ := (blk_cell hE 3).trans rfl; have HW1 := Aside0.mk hw1; have HBB := Aside0.mk hB; clear hw1 hB hE))
      all_goals first
        | (obtain ⟨W4, hW4, r0, r1, r2, r3⟩ := set4 HBB.out (.int .i64 0) (.int .i64 0) (.int .i64 0) (.string ⟨#[]⟩); rw [← hW4]; refine bodyPost_ret (by simp [results, Tryz.results73, go_sem, r0, r1, r2, r3]; try rfl) rfl ?_)
        | (obtain ⟨W4, hW4, r0, r1, r2, r3⟩ := set4 HBB.out (.int .i64 b0) (.int .i64 b1) (.int .i64 (rdN m2)) (.string (strOfNums m3)); rw [← hW4]; refine bodyPost_ret (by simp [results, Tryz.results73, go_sem, r0, r1, r2, r3]; try rfl) rfl ?_)
      all_goals rw [hW4]
      all_goals refine ⟨?_, (((((((((Fr.refl nope w).alloc _).alloc _).drew).below HW1.out).set (fun h => absurd h (Nat.lt_irrefl _)) 0 _).set (fun h => absurd h (Nat.lt_irrefl _)) 1 _).set (fun h => absurd h (Nat.lt_irrefl _)) 2 _).set (fun h => absurd h (Nat.lt_irrefl _)) 3 _)⟩
      all_goals rw [HONE.out]
      all_goals first | (rename_i hcond; rw [if_neg (by simp_all)]; rfl) | (rename_i hcond; rw [if_pos (by simp_all)]; rw [← HNN.out]; rfl)
end Go.Proofs.YtfkamoiamebngaaGreatDoor.ScrW

/- A script as a plain function: what is written is read back; what is read was written so; what is cut off. Plain laws. -/
namespace Go.Proofs.YtfkamoiamebngaaGreatDoor.ScrP
open Go.Proofs.YtfkamoiamebngaaGreatDoorW.PrintWords

def flat (L : List Ev) : List Int := (L.map evBytes).flatten
theorem flat_nil : flat [] = [] := rfl
theorem flat_cons (e : Ev) (L : List Ev) : flat (e :: L) = evBytes e ++ flat L := rfl
theorem flat_append (L M : List Ev) : flat (L ++ M) = flat L ++ flat M := by simp [flat]
theorem flat_one (e : Ev) : flat [e] = evBytes e := by simp [flat]
theorem encB_eq (c : Cf) (L : List Ev) : encB c L = cfBytes c ++ flat L := rfl

/-- one event's step -/
theorem decGo_step (fuel : Nat) (b : List Int) (k : Nat) (out : List Ev) (e : Ev) (n : Nat) (hk : k < b.length) (h : oneP (b.drop k) = (e, n, 0)) (ho : out.length ≠ 8192) :
    decGo (fuel + 1) b k out = decGo fuel b (k + n) (out ++ [e]) := by
  rw [decGo, if_pos hk, h]
  simp only [if_true]
  rw [if_neg ho]
theorem decGo_full (fuel : Nat) (b : List Int) (k : Nat) (out : List Ev) (e : Ev) (n : Nat) (hk : k < b.length) (h : oneP (b.drop k) = (e, n, 0)) (ho : out.length = 8192) :
    decGo (fuel + 1) b k out = (out, k, 6) := by
  rw [decGo, if_pos hk, h]
  simp only [if_true]
  rw [if_pos ho]
theorem decGo_bad (fuel : Nat) (b : List Int) (k : Nat) (out : List Ev) (x : Nat) (hk : k < b.length) (h : (oneP (b.drop k)).2.2 = x) (hx : x ≠ 0) :
    decGo (fuel + 1) b k out = (out, k, x) := by
  rw [decGo, if_pos hk]
  simp only [h]
  rw [if_neg hx]
theorem decGo_end (fuel : Nat) (b : List Int) (k : Nat) (out : List Ev) (hk : ¬ k < b.length) : decGo fuel b k out = (out, k, 0) := by
  cases fuel with
  | zero => rfl
  | succ f => rw [decGo, if_neg hk]

theorem evBytes_pos (e : Ev) : 7 ≤ (evBytes e).length := by rw [evBytes_len]; omega

/-- what is written is read back -/
theorem decGo_enc : ∀ (L : List Ev) (fuel : Nat) (pre : List Int) (out : List Ev), (∀ e ∈ L, evB e = true) → L.length ≤ fuel → out.length + L.length ≤ 8192 →
    decGo fuel (pre ++ flat L) pre.length out = (out ++ L, (pre ++ flat L).length, 0)
  | [], fuel, pre, out, _, _, _ => by
    rw [flat_nil, List.append_nil, List.append_nil]
    exact decGo_end fuel pre pre.length out (by omega)
  | e :: L, 0, pre, out, _, hf, _ => by simp at hf
  | e :: L, fuel + 1, pre, out, h, hf, ho => by
    simp only [List.length_cons] at hf ho
    have h1 := one_enc e (flat L) (h e (by simp))
    have hd : (pre ++ flat (e :: L)).drop pre.length = evBytes e ++ flat L := by rw [List.drop_left, flat_cons]
    have hp := evBytes_pos e
    rw [decGo_step fuel _ pre.length out e (7 + e.d.size) (by rw [flat_cons]; simp only [List.length_append]; omega) (by rw [hd]; exact h1) (by omega)]
    have ih := decGo_enc L fuel (pre ++ evBytes e) (out ++ [e]) (fun x hx => h x (by simp [hx])) (by omega) (by simp; omega)
    rw [List.append_assoc, ← flat_cons, List.length_append, evBytes_len] at ih
    rw [ih, List.append_assoc]
    rfl

theorem seven (b : List Int) (h : 7 ≤ b.length) : ∃ b0 b1 b2 b3 b4 b5 b6 t, b = b0 :: b1 :: b2 :: b3 :: b4 :: b5 :: b6 :: t := by
  rcases b with _ | ⟨b0, _ | ⟨b1, _ | ⟨b2, _ | ⟨b3, _ | ⟨b4, _ | ⟨b5, _ | ⟨b6, t⟩⟩⟩⟩⟩⟩⟩
  all_goals first | (simp at h; done) | exact ⟨_, _, _, _, _, _, _, _, rfl⟩
/-- the bytes of an event that was read -/
theorem one_back (b : List Int) (hb : isB b) (e : Ev) (n : Nat) (h : oneP b = (e, n, 0)) : evB e = true ∧ 7 ≤ n ∧ n ≤ b.length ∧ b.take n = evBytes e := by
  unfold oneP at h
  by_cases h7 : b.length < 7
  · rw [if_pos h7] at h; simp at h
  rw [if_neg h7] at h
  simp only [] at h
  obtain ⟨m, hm⟩ : ∃ m, (rdN ((b.take 7).drop 5)).toNat = m := ⟨_, rfl⟩
  rw [hm] at h
  by_cases hs : b.length < 7 + m
  · rw [if_pos hs] at h; simp at h
  rw [if_neg hs] at h
  obtain ⟨b0, b1, b2, b3, b4, b5, b6, t, rfl⟩ := seven b (by omega)
  have r0 := hb b0 (by simp)
  have r1 := hb b1 (by simp)
  have r2 := hb b2 (by simp)
  have r3 := hb b3 (by simp)
  have r4 := hb b4 (by simp)
  have r5 := hb b5 (by simp)
  have r6 := hb b6 (by simp)
  have rt : isB t := fun x hx => hb x (by simp [hx])
  simp only [List.length_cons] at hs
  have e1 : (List.take (7 + m) (b0 :: b1 :: b2 :: b3 :: b4 :: b5 :: b6 :: t)).drop 7 = t.take m := by
    rw [Nat.add_comm 7]
    simp
  have hm2 : m = b5 * 256 + b6 := by
    rw [← hm]; simp [rdN]; omega
  rw [e1] at h
  by_cases hE : evB ⟨(b0 :: b1 :: b2 :: b3 :: b4 :: b5 :: b6 :: t).getD 0 0, (b0 :: b1 :: b2 :: b3 :: b4 :: b5 :: b6 :: t).getD 1 0, rdN ((List.take 5 (b0 :: b1 :: b2 :: b3 :: b4 :: b5 :: b6 :: t)).drop 2), strOfNums (t.take m)⟩ = true
  · rw [if_pos hE] at h
    simp only [Prod.mk.injEq] at h
    obtain ⟨rfl, rfl, _⟩ := h
    refine ⟨hE, by omega, by simp; omega, ?_⟩
    have hts : (strOfNums (t.take m)).size = m := by
      rw [← bytesOf_length, ]
      simp [strOfNums, bytesOf]
      omega
    have htb : bytesOf (strOfNums (t.take m)) = t.take m := by
      simp only [strOfNums, bytesOf]
      simp only [List.map_map]
      conv => rhs; rw [← List.map_id (t.take m)]
      apply List.map_congr_left
      intro x hx
      have := rt x (List.mem_of_mem_take hx)
      simp
      omega
    simp only [evBytes, be3, be2, hts, htb]
    rw [Nat.add_comm 7]
    simp [rdN]
    omega
  · rw [if_neg hE] at h; simp at h

theorem one_codes (b : List Int) : (oneP b).2.2 = 0 ∨ (oneP b).2.2 = 5 ∨ (oneP b).2.2 = 8 := by
  unfold oneP
  split
  · simp
  · simp only []
    split
    · simp
    · split <;> simp

theorem cfB_facts {c : Cf} (h : cfB c = true) : (1 ≤ c.a0 ∧ c.a0 ≤ 65536) ∧ (1 ≤ c.a1 ∧ c.a1 ≤ 2042) ∧ (220 ≤ c.a2 ∧ c.a2 ≤ 65536) ∧ (1 ≤ c.a3 ∧ c.a3 ≤ 65536) ∧ (0 ≤ c.a4 ∧ c.a4 ≤ 9) ∧ (1 ≤ c.a5 ∧ c.a5 ≤ 1000) ∧ (0 ≤ c.a6 ∧ c.a6 ≤ 1000) ∧ (1 ≤ c.a7 ∧ c.a7 ≤ 500) := of_decide_eq_true h
theorem cfOf_enc (c : Cf) (rest : List Int) (h : cfB c = true) : cfOf (cfBytes c ++ rest) = c := by
  obtain ⟨h0, h1, h2, h3, h4, h5, h6, h7⟩ := cfB_facts h
  cases c
  simp only [cfOf, cfBytes, cfL, List.map_cons, List.map_nil, List.flatten_cons, List.flatten_nil, be3, List.cons_append, List.nil_append, List.append_nil, List.take_succ_cons, List.drop_succ_cons, List.take_zero, List.drop_zero, rdN, List.foldl_cons, List.foldl_nil, Cf.mk.injEq] at *
  omega
end Go.Proofs.YtfkamoiamebngaaGreatDoor.ScrP

/- Encode: a conf and events as bytes. -/
namespace Go.Proofs.YtfkamoiamebngaaGreatDoor.ScrW
open Go.RowKit Go.Proofs.YtfkamoiamebngaaGreatDoorW.PrintWords Go.Proofs.YtfkamoiamebngaaGreatDoorW.PrintMore Go.Proofs.YtfkamoiamebngaaGreatDoor.Fr Go.Proofs.YtfkamoiamebngaaGreatDoor.ScrP Go.Proofs.YtfkamoiamebngaaGreatDoor.Openers
set_option linter.unusedVariables false
set_option linter.unusedSimpArgs false

def Owns (w wr : World) (v : Value) (xs : List Int) : Prop := wr.ownsRow w.heap.size 5 1 v xs.length (nums .u8 xs)
def EncOk (c : Cf) (L : List Ev) (w w' : World) (v : Value) (x : Int) : Prop :=
  (8192 < L.length ∧ v = .slice none 0 0 ∧ x = 6) ∨ (L.length ≤ 8192 ∧ ¬ (cfB c = true ∧ ∀ e ∈ L, evB e = true) ∧ v = .slice none 0 0 ∧ x = 1) ∨
  (L.length ≤ 8192 ∧ cfB c = true ∧ (∀ e ∈ L, evB e = true) ∧ x = 0 ∧ Owns w w' v (encB c L))
/-- the bytes of the conf's first parts -/
def cfPre (c : Cf) (k : Nat) : List Int := (((cfL c).take k).map be3).flatten
theorem cfPre_succ (c : Cf) (k : Nat) (x : Int) (h : k < 8) (hx : (cfL c).getD k 0 = x) : cfPre c (k + 1) = cfPre c k ++ be3 x := by
  obtain rfl | rfl | rfl | rfl | rfl | rfl | rfl | rfl : k = 0 ∨ k = 1 ∨ k = 2 ∨ k = 3 ∨ k = 4 ∨ k = 5 ∨ k = 6 ∨ k = 7 := by omega
  all_goals (subst hx; rfl)
theorem cfPre_len (c : Cf) (k : Nat) (h : k ≤ 8) : (cfPre c k).length = 3 * k := by
  obtain rfl | rfl | rfl | rfl | rfl | rfl | rfl | rfl | rfl : k = 0 ∨ k = 1 ∨ k = 2 ∨ k = 3 ∨ k = 4 ∨ k = 5 ∨ k = 6 ∨ k = 7 ∨ k = 8 := by omega
  all_goals rfl
theorem cf_bound {c : Cf} (h : cfB c = true) (k : Nat) (hk : k < 8) : 0 ≤ (cfL c).getD k 0 ∧ (cfL c).getD k 0 ≤ 65536 := by
  obtain ⟨h0, h1, h2, h3, h4, h5, h6, h7⟩ := cfB_facts h
  obtain rfl | rfl | rfl | rfl | rfl | rfl | rfl | rfl : k = 0 ∨ k = 1 ∨ k = 2 ∨ k = 3 ∨ k = 4 ∨ k = 5 ∨ k = 6 ∨ k = 7 := by omega
  all_goals (simp only [cfL, List.getD_cons_zero, List.getD_cons_succ]; omega)
def ptrs8 (g : Nat) : Array Value := #[.pointer (some ⟨g, 0, none⟩), .pointer (some ⟨g, 1, none⟩), .pointer (some ⟨g, 2, none⟩), .pointer (some ⟨g, 3, none⟩), .pointer (some ⟨g, 4, none⟩), .pointer (some ⟨g, 5, none⟩), .pointer (some ⟨g, 6, none⟩), .pointer (some ⟨g, 7, none⟩)]
def cfCells (c : Cf) : Array Value := #[.int .i64 c.a0, .int .i64 c.a1, .int .i64 c.a2, .int .i64 c.a3, .int .i64 c.a4, .int .i64 c.a5, .int .i64 c.a6, .int .i64 c.a7]
theorem ptrs8_at (g k : Nat) (h : k < 8) : (ptrs8 g)[k]? = some (.pointer (some ⟨g, k, none⟩)) := by
  obtain rfl | rfl | rfl | rfl | rfl | rfl | rfl | rfl : k = 0 ∨ k = 1 ∨ k = 2 ∨ k = 3 ∨ k = 4 ∨ k = 5 ∨ k = 6 ∨ k = 7 := by omega
  all_goals rfl
theorem cfCells_at (c : Cf) (k : Nat) (h : k < 8) : (cfCells c)[k]? = some (.int .i64 ((cfL c).getD k 0)) := by
  obtain rfl | rfl | rfl | rfl | rfl | rfl | rfl | rfl : k = 0 ∨ k = 1 ∨ k = 2 ∨ k = 3 ∨ k = 4 ∨ k = 5 ∨ k = 6 ∨ k = 7 := by omega
  all_goals rfl
/-- the cells of an event that stands in a row that is read -/
theorem evCells {W : World} {A : Option Addr} {L : List Ev} (h : ReadsEv W A L) (k : Nat) (hk : k < L.length) (e : Ev) (he : L.getD k ev0 = e) {W1 : World} (hF : Fr nope W W1) :
    ∃ ad, A = some ad ∧ W1.cell? (ad.add (k * 4)) = some (.int .i64 e.k) ∧ W1.cell? ⟨(ad.add (k * 4)).block, (ad.add (k * 4)).off + 1, none⟩ = some (.int .i64 e.i) ∧ W1.cell? ⟨(ad.add (k * 4)).block, (ad.add (k * 4)).off + 2, none⟩ = some (.int .i64 e.n) ∧ W1.cell? ⟨(ad.add (k * 4)).block, (ad.add (k * 4)).off + 3, none⟩ = some (.string e.d) ∧ e.d.size ≤ 140737488351232 := by
  obtain ⟨ad, rfl, hcs⟩ := h.2 (by omega)
  obtain ⟨h0, h1, h2, h3, h4⟩ := hcs k hk
  rw [he] at h0 h1 h2 h3 h4
  rw [add_field _ _ _ (by decide)] at h1 h2 h3
  have back : ∀ {a : Addr} {v : Value}, W.cell? a = some v → W1.cell? a = some v := fun {a v} h => by
    rw [World.cell?_of_block (hF.block _ (World.block_lt_of_cell? W _ h) (fun h => h))]; exact h
  exact ⟨ad, rfl, back h0, back h1, back h2, back h3, h4⟩
theorem sz_le (L : List Ev) (k : Nat) (h : k < L.length) (e : Ev) (he : L.getD k ev0 = e) : sz (L.take k) + e.d.size ≤ sz L := by
  have h1 := sz_take L k h e he
  have h2 : sz L = sz (L.take (k + 1)) + sz (L.drop (k + 1)) := by
    unfold sz
    rw [← List.sum_append, ← List.map_append, List.take_append_drop]
  omega
theorem flat_len (L : List Ev) : (flat L).length = 7 * L.length + sz L := by
  induction L with
  | nil => rfl
  | cons e L ih => rw [flat_cons, List.length_append, ih, evBytes_len]; simp [sz]; omega
theorem flat_take (L : List Ev) (k : Nat) (h : k < L.length) (e : Ev) (he : L.getD k ev0 = e) : flat (L.take (k + 1)) = flat (L.take k) ++ evBytes e := by
  have : L.take (k + 1) = L.take k ++ [e] := by
    rw [List.take_succ_eq_append_getElem h, ← he]
    simp [h]
  rw [this, flat_append, flat_one]
theorem mem_take_succ (L : List Ev) (k : Nat) (h : k < L.length) (e : Ev) (he : L.getD k ev0 = e) (x : Ev) : x ∈ L.take (k + 1) ↔ x ∈ L.take k ∨ x = e := by
  have : L.take (k + 1) = L.take k ++ [e] := by
    rw [List.take_succ_eq_append_getElem h, ← he]
    simp [h]
  rw [this]; simp
theorem getD_mem (L : List Ev) (k : Nat) (h : k < L.length) (e : Ev) (he : L.getD k ev0 = e) : e ∈ L := by
  rw [← he]; simp [h]

theorem ne_row {w : World} {v v1 : Value} {g : Nat} (h : AtRow w v1 v) (hne : ∀ b, v.ownBlock = some b → b ≠ g) (hg : g < w.heap.size) : ∀ b, v1.ownBlock = some b → b ≠ g := by
  intro b hb
  rcases h with h | ⟨b2, h, h2⟩
  · rw [h] at hb; exact hne b hb
  · rw [h] at hb; cases hb; omega
theorem own_base_le {w : World} {b b1 : Nat} {e : TypeId} {size n : Nat} {v : Value} {xs : List Value} (h : w.ownsRow b1 e size v n xs) (hb : b ≤ b1) : w.ownsRow b e size v n xs := by
  obtain ⟨h1, h2⟩ := h
  refine ⟨h1, ?_⟩
  rcases h2 with h2 | ⟨g, cap, cur, e1, hg, r⟩
  · exact .inl h2
  · exact .inr ⟨g, cap, cur, e1, by omega, r⟩

set_option maxHeartbeats 2000000 in
set_option maxRecDepth 100000 in
theorem encode_calls (c : Cf) (L : List Ev) (A : Option Addr) (cp : Nat) (w : World) (hr : ReadsEv w A L) (hs : 8192 < L.length ∨ sz L ≤ 100000) :
    Calls Tryz.prog 26 #[cfV c, .slice A L.length cp] w fun e w' => ∃ v x, e = .returned (.tuple #[v, .int .i64 x]) ∧ Fr nope w w' ∧ EncOk c L w w' v x := by
  unfold cfV
  have hlm := hr.1
  have HR := Aside0.mk hr
  clear hr
  by_cases h8 : 8192 < L.length
  · have t1 : decide (8192 < (L.length : Int)) = true := decide_eq_true (by omega)
    have HP : Aside0 (∀ w', EncOk c L w w' (.slice none 0 0) 6) := ⟨fun w' => .inl ⟨h8, rfl, rfl⟩⟩
    clear h8 hs
    go_enter Tryz.func26, Tryz.ntmps26
    go_wp2
    go_returns
    exact ⟨_, _, rfl, (Fr.refl _ _).alloc _, HP.out _⟩
  have t1 : decide (8192 < (L.length : Int)) = false := decide_eq_false (by omega)
  have HS : Aside0 (sz L ≤ 100000) := ⟨by omega⟩
  have H8 : Aside0 (L.length ≤ 8192) := ⟨by omega⟩
  clear h8 hs
  by_cases hcb : cfB c = true
  case neg =>
    have hcf : cfB c = false := by simpa using hcb
    have HP : Aside0 (∀ w', EncOk c L w w' (.slice none 0 0) 1) := ⟨fun w' => .inr (.inl ⟨H8.out, fun h => hcb h.1, rfl, rfl⟩)⟩
    clear hcb
    go_enter Tryz.func26, Tryz.ntmps26
    go_wp2_with (first | (go_at_call 10; refine (confRight_calls c _).mono ?_; rintro e w1 ⟨rfl, hw1⟩; rw [hcf]; have HW1 := Aside0.mk hw1; clear hw1))
    go_returns
    exact ⟨_, _, rfl, ((Fr.refl _ _).alloc _).below HW1.out, HP.out _⟩
  have HCB := Aside0.mk hcb
  go_enter Tryz.func26, Tryz.ntmps26
  go_wp2_with (first | (go_at_call 10; refine (confRight_calls c _).mono ?_; rintro e w1 ⟨rfl, hw1⟩; rw [hcb]; have HW1 := Aside0.mk hw1; clear hw1) | (go_at_call 46; refine (fields_calls w.heap.size _).mono ?_; rintro e w2 ⟨rfl, hw2⟩; have HW2 := Aside0.mk hw2; clear hw2))
  have hC : w2.heap[w.heap.size]? = some (.cells (cfCells c) 23 (0, 0)) := by rw [HW2.out]; exact blk_drew (blk_alloc (blk_below (blk_new w _) HW1.out) _)
  have hP : w2.heap[w1.heap.size]? = some (.cells (ptrs8 w.heap.size) 97 (0, 0)) := by rw [HW2.out]; exact blk_drew (blk_new w1 _)
  have HF2 : Aside0 (Fr nope w w2) := ⟨by rw [HW2.out]; exact ((((Fr.refl _ _).alloc _).below HW1.out).alloc _).drew⟩
  have HC := Aside0.mk hC
  have HP := Aside0.mk hP
  clear hC hP HW2 HW1
  go_loopw [6, 19] (fun v6 v19 wr => ∃ (k : Nat) (xs : List Int) (A6 : Option Addr) (c6 : Nat), v19 = .int .i64 k ∧ k ≤ 8 ∧ v6 = .slice A6 xs.length c6 ∧ Aside0 (xs = cfPre c k) ∧ xs.length ≤ 24 ∧ Aside0 (wr.ownsRow w2.heap.size 5 1 (.slice A6 xs.length c6) xs.length (nums .u8 xs)) ∧ Aside0 (Fr nope w2 wr)) (fun _ i _ => 8 - (intOf i).toNat)
  case atStart => exact ⟨0, [], none, 0, rfl, Nat.zero_le _, rfl, ⟨rfl⟩, Nat.zero_le _, ⟨World.ownsRow_nil _ _ _ _⟩, ⟨Fr.refl _ _⟩⟩
  case round =>
    obtain ⟨k, xs, A6, c6, rfl, hk, rfl, HX, hxl, HO, HF⟩ := hrel
    by_cases hlt : k < 8
    · have hx := cf_bound HCB.out k hlt
      have p1 : wr.cell? ⟨w1.heap.size, k, none⟩ = some (.pointer (some ⟨w.heap.size, k, none⟩)) := (blk_cell (HF.out.blk HP.out (fun h => h)) k).trans (ptrs8_at _ k hlt)
      have p2 : wr.cell? ⟨w.heap.size, k, none⟩ = some (.int .i64 ((cfL c).getD k 0)) := (blk_cell (HF.out.blk HC.out (fun h => h)) k).trans (cfCells_at _ k hlt)
      obtain ⟨x, hxe⟩ : ∃ x, (cfL c).getD k 0 = x := ⟨_, rfl⟩
      rw [hxe] at hx p2
      obtain ⟨ys, hys⟩ : ∃ l, l = xs ++ be3 x := ⟨_, rfl⟩
      have HX2 : Aside0 (ys = cfPre c (k + 1)) := ⟨by rw [hys, cfPre_succ c k x hlt hxe, HX.out]⟩
      have hyl : ys.length ≤ 24 := by rw [HX2.out, cfPre_len c (k + 1) (by omega)]; omega
      have HYS := Aside0.mk hys
      clear hxe hys
      go_wp2_with (first | (go_at_call 47; refine (number3_calls x hx.1 hx.2 w2.heap.size A6 c6 xs _ HF.out.size (by omega) HO.out).mono ?_; rintro e w3 ⟨v1, rfl, ho1, hf1, hat1⟩; rw [← HYS.out] at ho1; obtain ⟨A1, c1, rfl⟩ := own_slice ho1; have HO1 := Aside0.mk ho1; have HF1 := Aside0.mk (HF.out.trans hf1 (fun i hi hs => absurd (own_old HO.out hs).1 (by omega))); clear ho1 hf1 hat1))
      case roundEnd =>
        refine ⟨⟨k + 1, ys, A1, c1, by push_cast; rfl, by omega, rfl, HX2, hyl, HO1, HF1⟩, ?_⟩
        simp only [intOf]
        omega
    · have hk8 : k = 8 := by omega
      have HX8 : Aside0 (xs = cfBytes c ++ flat (L.take 0)) := ⟨by rw [HX.out, hk8]; simp [flat]; rfl⟩
      go_wp2
      go_loopw [6, 31] (fun v6 v31 wq => ∃ (j : Nat) (ys : List Int) (A7 : Option Addr) (c7 : Nat), v31 = .int .i64 j ∧ j ≤ L.length ∧ v6 = .slice A7 ys.length c7 ∧ Aside0 (ys = cfBytes c ++ flat (L.take j)) ∧ Aside0 (∀ e ∈ L.take j, evB e = true) ∧ Aside0 (wq.ownsRow w2.heap.size 5 1 (.slice A7 ys.length c7) ys.length (nums .u8 ys)) ∧ Aside0 (Fr nope w2 wq)) (fun _ i _ => L.length - (intOf i).toNat)
      case atStart => exact ⟨0, xs, A6, c6, rfl, Nat.zero_le _, rfl, HX8, ⟨fun e h => by simp at h⟩, HO, HF⟩
      case round =>
        clear HX8 HX HO HF hxl hk8 hlt hk
        obtain ⟨j, ys, A7, c7, rfl, hj, rfl, HX, HE, HO, HF⟩ := hrel
        by_cases hlt : j < L.length
        · obtain ⟨e, he⟩ : ∃ e, L.getD j ev0 = e := ⟨_, rfl⟩
          obtain ⟨ad, rfl, g0, g1, g2, g3, hsz⟩ := evCells HR.out j hlt e he (HF2.out.trans HF.out (fun i hi h => h.elim))
          have hyl : ys.length ≤ 200000 := by
            rw [HX.out, List.length_append, cfBytes_len, flat_len, List.length_take]
            have := sz_le L j hlt e he
            have := HS.out
            have := H8.out
            omega
          have hesz : e.d.size ≤ 100000 := by
            have := sz_le L j hlt e he
            have := HS.out
            omega
          have HMEM := Aside0.mk (getD_mem L j hlt e he)
          have HFT := Aside0.mk (flat_take L j hlt e he)
          have HMT := Aside0.mk (mem_take_succ L j hlt e he)
          clear he
          by_cases hev : evB e = true
          · obtain ⟨⟨hk1, hk2⟩, ⟨hi1, hi2⟩, ⟨hn1, hn2⟩, hd4⟩ := evB_facts hev
            obtain ⟨y1, hy1⟩ : ∃ l, l = ys ++ [e.k, e.i] := ⟨_, rfl⟩
            obtain ⟨y2, hy2⟩ : ∃ l, l = y1 ++ be3 e.n := ⟨_, rfl⟩
            obtain ⟨y3, hy3⟩ : ∃ l, l = y2 ++ be2 e.d.size := ⟨_, rfl⟩
            obtain ⟨y4, hy4⟩ : ∃ l, l = y3 ++ bytesOf e.d := ⟨_, rfl⟩
            have hl1 : y1.length ≤ ys.length + 2 := by rw [hy1]; simp
            have hl2 : y2.length ≤ y1.length + 3 := by rw [hy2]; simp [be3]
            have hl3 : y3.length ≤ y2.length + 2 := by rw [hy3]; simp [be2]
            have HX4 : Aside0 (y4 = cfBytes c ++ flat (L.take (j + 1))) := ⟨by rw [HFT.out, hy4, hy3, hy2, hy1, HX.out]; simp only [evBytes]; rw [show e.k % 256 = e.k by omega, show e.i % 256 = e.i by omega]; simp⟩
            have HE4 : Aside0 (∀ x ∈ L.take (j + 1), evB x = true) := ⟨fun x hx => by
              rcases (HMT.out x).1 hx with hx | hx
              · exact HE.out x hx
              · rw [hx]; exact hev⟩
            have HY1 := Aside0.mk hy1
            have HY2 := Aside0.mk hy2
            have HY3 := Aside0.mk hy3
            have HY4 := Aside0.mk hy4
            have hsw : w2.heap.size ≤ wr.heap.size := HF.out.size
            clear hy1 hy2 hy3 hy4 hcb
            go_wp2_with (first | (go_at_call 33; refine (evRight_calls e _).mono ?_; rintro e3 w3 ⟨rfl, hw3⟩; rw [hev]; have hs3 : wr.heap.size + 1 ≤ w3.heap.size := (by have := hw3.size; simp at this; omega); have hB3 : w3.heap[wr.heap.size]? = some (.cells #[.int .i64 e.k, .int .i64 e.i, .int .i64 e.n, .string e.d] 33 (0, 0)) := blk_below (blk_new wr _) hw3; have HB3 := Aside0.mk hB3; have d0 : w3.cell? ⟨wr.heap.size, 0, none⟩ = some (.int .i64 e.k) := (blk_cell hB3 0).trans rfl; have d1 : w3.cell? ⟨wr.heap.size, 1, none⟩ = some (.int .i64 e.i) := (blk_cell hB3 1).trans rfl; have HF3 := Aside0.mk ((HF.out.alloc _).below hw3); have HO3 := Aside0.mk ((((Fr.refl nope wr).alloc _).below hw3).own HO.out (fun _ _ h => h)); clear hw3 hB3) | ((with_reducible refine gate_builtin (b := .append) (xs := #[.tmp 38, .tmp 45]) rfl ?_); at_builtin; refine app_nums rfl (.tmp 38) (.tmp 45) 29 5 .u8 1 rfl Tryz.underlying29 info5 (by decide) w2.heap.size (.slice A7 ys.length c7) ys [e.k, e.i] _ 2 2 rfl rfl ?aO ?aR ?aB ?aL ?_; (case aO => exact HO3.out.alloc _); (case aR => exact reads_lit w3 .u8 [e.k, e.i] 5 (0, 0) (by simp)); (case aB => exact (by rw [World.size_alloc]; omega)); (case aL => exact (by omega)); intro v4 w4 ho4 hf4 hat4; rw [← HY1.out] at ho4; obtain ⟨A4, c4, rfl⟩ := own_slice ho4; have HO4 := Aside0.mk ho4; have HF4 := Aside0.mk ((HF3.out.alloc _).trans hf4 (fun i hi hs => absurd (own_old HO3.out hs).1 (by omega))); have hne4 : ∀ b, (Value.slice A4 y1.length c4).ownBlock = some b → b ≠ wr.heap.size := (fun b hb => by rcases hat4 with h | ⟨b2, h, h2⟩; exact (by rw [h] at hb; have := (own_old HO.out hb).2; omega); exact (by rw [h] at hb; cases hb; rw [World.size_alloc] at h2; omega)); have HNE4 := Aside0.mk hne4; have hB4 := hf4.blk (blk_alloc HB3.out _) (fun hs => absurd (own_old HO.out hs).2 (by omega)); have HB4 := Aside0.mk hB4; clear ho4 hf4 hat4 hne4 hB4 d0 d1))
            have q2 : w4.cell? ⟨wr.heap.size, 2, none⟩ = some (.int .i64 e.n) := (blk_cell HB4.out 2).trans rfl
            have q3 : w4.cell? ⟨wr.heap.size, 3, none⟩ = some (.string e.d) := (blk_cell HB4.out 3).trans rfl
            go_region_held3 (fun w' => w'.cell? ⟨wr.heap.size, 2, none⟩ = some (.int .i64 e.n) ∧ w'.cell? ⟨wr.heap.size, 3, none⟩ = some (.string e.d))
              (first | exact ⟨q2, q3⟩ | exact ⟨q52, q53⟩ | exact ⟨q62, q63⟩ | fail)
              (first | (go_at_call 47; have hq5 := number3_calls e.n hn1 hn2 w2.heap.size A4 c4 y1 w4.drew HF4.out.size (by omega) HO4.out; (with_reducible refine hq5.mono ?_); clear hq5; rintro e5 w5 ⟨v5, rfl, ho5, hf5, hat5⟩; rw [← HY2.out] at ho5; obtain ⟨A5, c5, rfl⟩ := own_slice ho5; have HO5 := Aside0.mk ho5; have HF5 := Aside0.mk (HF4.out.drew.trans hf5 (fun i hi hs => absurd (own_old HO4.out hs).1 (by omega))); have HB5 := Aside0.mk (hf5.blk (blk_drew HB4.out) (fun hs => HNE4.out _ hs rfl)); have HNE5 := Aside0.mk (ne_row hat5 HNE4.out (blk_lt HB4.out)); have q52 : w5.cell? ⟨wr.heap.size, 2, none⟩ = some (.int .i64 e.n) := (blk_cell HB5.out 2).trans rfl; have q53 : w5.cell? ⟨wr.heap.size, 3, none⟩ = some (.string e.d) := (blk_cell HB5.out 3).trans rfl; clear ho5 hf5 hat5) | (go_at_call 47; have hq6 := number2_calls e.d.size (by omega) (by omega) w2.heap.size A5 c5 y2 w5 HF5.out.size (by omega) HO5.out; (with_reducible refine hq6.mono ?_); clear hq6; rintro e6 w6 ⟨v6, rfl, ho6, hf6, hat6⟩; rw [← HY3.out] at ho6; obtain ⟨A6', c6', rfl⟩ := own_slice ho6; have HO6 := Aside0.mk ho6; have HF6 := Aside0.mk (HF5.out.trans hf6 (fun i hi hs => absurd (own_old HO5.out hs).1 (by omega))); have HB6 := Aside0.mk (hf6.blk HB5.out (fun hs => HNE5.out _ hs rfl)); have q62 : w6.cell? ⟨wr.heap.size, 2, none⟩ = some (.int .i64 e.n) := (blk_cell HB6.out 2).trans rfl; have q63 : w6.cell? ⟨wr.heap.size, 3, none⟩ = some (.string e.d) := (blk_cell HB6.out 3).trans rfl; clear ho6 hf6 hat6) | fail)
            go_wp2_with (first | ((with_reducible refine gate_builtin (b := .append) (xs := #[.tmp 55, .tmp 57]) rfl ?_); at_builtin; refine print_append_str (w0 := w6) w2.heap.size rfl (.tmp 55) (.tmp 57) 29 9 5 rfl Tryz.underlying29 Tryz.underlying9 info5 (.slice A6' y3.length c6') y3 e.d rfl rfl HO6.out (Below.refl _ _) HF6.out.size (by omega) ?_; intro v7 w7 ho7 hb7 hg7; rw [← HY4.out] at ho7; obtain ⟨A7', c7', rfl⟩ := own_slice ho7; have HO7 := Aside0.mk ho7; have HF7 := Aside0.mk (HF6.out.grown hg7 (fun b hb hlt => absurd (own_old HO6.out hb).1 (by omega))); clear ho7 hb7 hg7))
            case roundEnd =>
              refine ⟨⟨j + 1, y4, A7', c7', by push_cast; rfl, hlt, rfl, HX4, HE4, HO7, HF7⟩, ?_⟩
              simp only [intOf]
              omega
          · have hevf : evB e = false := by simpa using hev
            have HPP : Aside0 (∀ w', EncOk c L w w' (.slice none 0 0) 1) := ⟨fun w' => .inr (.inl ⟨H8.out, fun h => hev (h.2 e HMEM.out), rfl, rfl⟩)⟩
            clear hev
            go_wp2_with (first | (go_at_call 33; refine (evRight_calls e _).mono ?_; rintro e3 w3 ⟨rfl, hw3⟩; rw [hevf]; have HW3 := Aside0.mk hw3; clear hw3))
            go_returns
            exact ⟨_, _, rfl, ((HF2.out.trans HF.out (fun i hi h => h.elim)).alloc _).below HW3.out, HPP.out _⟩
        · have hjl : j = L.length := by omega
          have HX9 : Aside0 (ys = encB c L) := ⟨by rw [HX.out, hjl, List.take_length]; rfl⟩
          have HE9 : Aside0 (∀ e ∈ L, evB e = true) := ⟨by have := HE.out; rw [hjl, List.take_length] at this; exact this⟩
          clear hjl
          go_wp2
          go_returns
          exact ⟨_, _, rfl, HF2.out.trans HF.out (fun i hi h => h.elim), .inr (.inr ⟨H8.out, HCB.out, HE9.out, rfl, by rw [← HX9.out]; exact own_base_le HO.out HF2.out.size⟩)⟩
end Go.Proofs.YtfkamoiamebngaaGreatDoor.ScrW
