/- feed: New, Err, Push. -/
import Derived.Test.YtfkamoiamebngaaGreatDoorM05
import Derived.ScopeJumps
import Derived.Maps.AppendAt
import Derived.WalkLawsBesides
import Derived.KernelRfl
import Derived.Test.YtfkamoiamebngaaGreatDoorProg
import Derived.Test.YtfkamoiamebngaaGreatDoorM02
import Derived.WalkKit
import Derived.RowKit3
import Derived.Outline
import Derived.Deep.DeepMust
import Derived.BigQuiet
import Derived.Deep.QuietTactic
import Derived.Laws.Entries
import Derived.RegionTactic
import Derived.ChangeAlike
namespace Go.Proofs.YtfkamoiamebngaaGreatDoor.BroW
open Go.RowKit Go.Proofs.YtfkamoiamebngaaGreatDoorW.PrintWords Go.Proofs.YtfkamoiamebngaaGreatDoorW.PrintMore Go.Proofs.YtfkamoiamebngaaGreatDoor.Fr Go.Proofs.YtfkamoiamebngaaGreatDoor.ScrW Go.Proofs.YtfkamoiamebngaaGreatDoor.ScrP Go.Proofs.YtfkamoiamebngaaGreatDoor.Mod
set_option linter.unusedVariables false
set_option linter.unusedSimpArgs false

/-! ### plain -/
theorem getB_ok (bs : List Int) (h : (getB bs).2.2 = 0) : 5 ≤ (getB bs).2.1 ∧ (getB bs).2.1 ≤ bs.length := by
  revert h
  unfold getB
  simp only []
  repeat' split
  all_goals intro h
  all_goals first | (simp at h; done) | skip
  simp only []
  omega
theorem getB_err (bs : List Int) : (getB bs).2.2 = 0 ∨ (getB bs).2.2 = 5 ∨ (getB bs).2.2 = 6 ∨ (getB bs).2.2 = 7 := by
  unfold getB
  simp only []
  repeat' split
  all_goals simp
theorem getB_body (bs : List Int) (hb : isB bs) : isB (getB bs).1.2 ∧ (getB bs).1.2.length ≤ 2048 ∧ 0 ≤ (getB bs).1.1 ∧ (getB bs).1.1 ≤ 255 := by
  have nil : ∀ (n : Nat) (x : Int), isB (((0, []), n, x) : Frm × Nat × Int).1.2 ∧ (((0, []), n, x) : Frm × Nat × Int).1.2.length ≤ 2048 ∧ 0 ≤ (((0, []), n, x) : Frm × Nat × Int).1.1 ∧ (((0, []), n, x) : Frm × Nat × Int).1.1 ≤ 255 :=
    fun n x => ⟨fun x hx => by simp at hx, by simp, by simp, by simp⟩
  unfold getB
  by_cases h1 : bs.length < 2
  · rw [if_pos h1]; exact nil _ _
  rw [if_neg h1]
  simp only []
  by_cases h2 : (bs.getD 0 0 * 256 + bs.getD 1 0).toNat = 0 ∨ 2049 < (bs.getD 0 0 * 256 + bs.getD 1 0).toNat
  · rw [if_pos h2]; exact nil _ _
  rw [if_neg h2]
  by_cases h3 : bs.length < (bs.getD 0 0 * 256 + bs.getD 1 0).toNat + 4
  · rw [if_pos h3]; exact nil _ _
  rw [if_neg h3]
  split
  · refine ⟨fun x hx => hb x (List.mem_of_mem_take (List.mem_of_mem_drop hx)), ?_, (getD_b hb 2 (by omega)).1, (getD_b hb 2 (by omega)).2⟩
    simp only [List.length_drop, List.length_take]
    omega
  · exact nil _ _
theorem feedGo_ok (f : Nat) (b : List Int) (h : (getB b).2.2 = 0) : feedGo (f + 1) b = ((getB b).1 :: (feedGo f (b.drop (getB b).2.1)).1, (feedGo f (b.drop (getB b).2.1)).2) := by
  rw [feedGo]; simp only []; rw [if_pos h]
theorem feedGo_short (f : Nat) (b : List Int) (h : (getB b).2.2 = 5) : feedGo (f + 1) b = ([], b, 0) := by
  rw [feedGo]; simp only []; rw [if_neg (by omega), if_pos h]
theorem feedGo_bad (f : Nat) (b : List Int) (h : (getB b).2.2 ≠ 0) (h5 : (getB b).2.2 ≠ 5) : feedGo (f + 1) b = ([], [], (getB b).2.2) := by
  rw [feedGo]; simp only []; rw [if_neg h, if_neg h5]

/-! ### append of one element that lies in a block of its own -/
section
variable {P : Program} {ops : Array Oper} {Q : Exit → Act → World → Prop} {rest : List Oper} {a : Act} {o : Oper} {W : World}
theorem app_lit (hgd : o.guard = none) (s x : Operand) (t e : TypeId) (z : Value) (size bytes : Nat) (ho : o.op = .call { callee := .builtin .append, args := #[s, x], argTypes := #[t, t] })
    (ht : P.underlying t = some (.slice e)) (hinfo : (P.info? e).map (fun i => (i.zero, i.size, i.bytes)) = some (some z, size, bytes)) (hzs : z.cells.size = size) (hsz : 0 < size) (b0 : Nat)
    (v : Value) (n : Nat) (xs : List Value) (g c : Nat) (cs : Array Value) (T : TypeId) (hs : a.eval s = v) (hx : a.eval x = .slice (some ⟨g, 0, none⟩) 1 c) (hg : W.heap[g]? = some (.cells cs T (0, 0)))
    (hcs : cs.size = size) (h1 : ∀ u ∈ cs.toList, u.oneCell' = true) (HO : W.ownsRow b0 e size v n xs) (hb : b0 ≤ W.heap.size) (hn : n ≤ 1000000) (hby : bytes ≤ 100)
    (h : ∀ v1 w1, w1.ownsRow b0 e size v1 (n + 1) (xs ++ cs.toList) → Fr (rowOf v) W w1 → (v1.ownBlock = v.ownBlock ∨ v1.ownBlock = some W.heap.size) → wpList P ops Q rest (a.put o.dst v1) w1) :
    wpList P ops Q (o :: rest) a W := by
  obtain ⟨i0, hi, hzz⟩ := Option.map_eq_some_iff.1 hinfo
  simp only [Prod.mk.injEq] at hzz
  obtain ⟨hz0, hz1, hz2⟩ := hzz
  refine wpList_append_own_at W hgd s x t ho b0 e i0 z size bytes ht hi hz0 hz1 hz2 hzs hsz v n xs hs HO ⟨g, 0, none⟩ 1 c cs.toList hx (by simp [hcs]) (World.news_of_block hg) h1 (by unfold maxLen; omega) ?_ hb ?_
  · have : (n + 1) * bytes ≤ 1000001 * 100 := Nat.mul_le_mul (by omega) hby
    omega
  · intro v1 w1 h2 h3 _ h5
    exact h v1 w1 h2 ((Fr.refl (rowOf v) W).grown h3 (fun _ hb _ => hb)) h5
end

/-! ### frames in memory -/
/-- v is a slice of these bytes, in a block of N -/
def InN (N : Nat → Prop) (W : World) (v : Value) (xs : List Int) : Prop := ∃ A c, v = .slice A xs.length c ∧ xs.length ≤ c ∧ c ≤ maxLen ∧ ReadsInt W .u8 A xs.length xs ∧ ∀ ad, A = some ad → N ad.block
def frC (p : Frm × Value) : List Value := [.int .u8 p.1.1, p.2]
def frs (L : List (Frm × Value)) : List Value := (L.map frC).flatten
theorem frs_snoc (L : List (Frm × Value)) (p : Frm × Value) : frs (L ++ [p]) = frs L ++ frC p := by simp [frs]
/-- a row of frames: each one's body lies in a block of N, and so does the row -/
structure FrmsAt (base : Nat) (N : Nat → Prop) (W : World) (v : Value) (L : List (Frm × Value)) : Prop where
  row : W.ownsRow base 50 2 v L.length (frs L)
  rowN : ∀ i, v.ownBlock = some i → N i
  body : ∀ p ∈ L, InN (fun i => i < W.heap.size ∧ N i ∧ v.ownBlock ≠ some i) W p.2 p.1.2
theorem infoFrm : (Tryz.prog.info? 50).map (fun i => (i.zero, i.size, i.bytes)) = some (some (.agg #[.int .u8 0, .slice none 0 0]), 2, 32) := by kernel_rfl
theorem InN.fr {N S : Nat → Prop} {w w1 : World} {v : Value} {xs : List Int} (h : InN N w v xs) (hF : Fr S w w1) (hn : ∀ i, N i → ¬ S i) : InN N w1 v xs := by
  obtain ⟨A, c, rfl, h1, h2, h3, h4⟩ := h
  exact ⟨A, c, rfl, h1, h2, hF.reads h3 (fun ad e => hn _ (h4 ad e)), h4⟩
theorem InN.mono {N N1 : Nat → Prop} {w : World} {v : Value} {xs : List Int} (h : InN N w v xs) (hn : ∀ i, N i → N1 i) : InN N1 w v xs := by
  obtain ⟨A, c, rfl, h1, h2, h3, h4⟩ := h
  exact ⟨A, c, rfl, h1, h2, h3, fun ad e => hn _ (h4 ad e)⟩
theorem inN_own {w : World} {b : Nat} {v : Value} {xs : List Int} (h : w.ownsRow b 5 1 v xs.length (nums .u8 xs)) : InN (fun i => v.ownBlock = some i) w v xs := by
  obtain ⟨A, c, rfl⟩ := own_slice h
  have hr := own_reads' h
  rcases h.2 with ⟨e, h0⟩ | ⟨g, cap, cur, e, hb, hh, hn, hm, hs, hx⟩
  · simp only [Value.slice.injEq] at e
    obtain ⟨rfl, _, rfl⟩ := e
    exact ⟨none, 0, rfl, by omega, Nat.zero_le _, hr, fun ad e => by cases e⟩
  · simp only [Value.slice.injEq] at e
    obtain ⟨rfl, _, rfl⟩ := e
    exact ⟨_, _, rfl, hn, hm, hr, fun ad e => by cases e; rfl⟩
theorem FrmsAt.fr {base : Nat} {N S : Nat → Prop} {W W1 : World} {v : Value} {L : List (Frm × Value)} (h : FrmsAt base N W v L) (hF : Fr S W W1) (hn : ∀ i, N i → ¬ S i) : FrmsAt base N W1 v L :=
  ⟨hF.own h.row (fun b hb => hn b (h.rowN b hb)), h.rowN, fun p hp => ((h.body p hp).fr hF (fun i hi => hn i hi.2.1)).mono (fun i hi => ⟨Nat.lt_of_lt_of_le hi.1 hF.size, hi.2⟩)⟩
theorem frmsAt_snoc {base : Nat} {N N1 S : Nat → Prop} {W W3 : World} {v v3 : Value} {L : List (Frm × Value)} {p : Frm × Value} (h : FrmsAt base N W v L) (hF : Fr S W W3) (hS : ∀ i, S i → v.ownBlock = some i ∨ ¬ N i)
    (hrow : W3.ownsRow base 50 2 v3 (L.length + 1) (frs L ++ frC p)) (hat : v3.ownBlock = v.ownBlock ∨ ∃ b, v3.ownBlock = some b ∧ W.heap.size ≤ b)
    (hp : InN (fun i => W.heap.size ≤ i ∧ i < W3.heap.size ∧ v3.ownBlock ≠ some i) W3 p.2 p.1.2) (hN : ∀ i, N i → N1 i) (hNf : ∀ i, W.heap.size ≤ i → N1 i) : FrmsAt base N1 W3 v3 (L ++ [p]) := by
  refine ⟨by rw [List.length_append, frs_snoc]; exact hrow, fun i hi => ?_, fun q hq => ?_⟩
  · rcases hat with e | ⟨b, e, hb⟩
    · exact hN i (h.rowN i (by rw [← e]; exact hi))
    · rw [e] at hi; cases hi; exact hNf _ hb
  · rcases List.mem_append.1 hq with hq | hq
    · refine ((h.body q hq).fr hF (fun i hi hs => ?_)).mono (fun i hi => ⟨Nat.lt_of_lt_of_le hi.1 hF.size, hN i hi.2.1, fun e2 => ?_⟩)
      · rcases hS i hs with e | e
        · exact hi.2.2 e
        · exact e hi.2.1
      · rcases hat with e | ⟨b, e, hb⟩
        · exact hi.2.2 (by rw [← e]; exact e2)
        · rw [e] at e2; cases e2; exact absurd hi.1 (by omega)
    · obtain rfl : q = p := by simpa using hq
      exact hp.mono (fun i hi => ⟨hi.2.1, hNf i hi.1, hi.2.2⟩)
/-- bytes from one on -/
theorem tl_drop {i5 : TypeInfo} (h1 : Tryz.prog.info? 5 = some i5) (h2 : i5.size = 1) {W : World} {v : Value} {xs : List Int} (h : IsTl W v xs) (m : Nat) (hm : m ≤ xs.length) :
    ∃ v1 A c n, v = .slice A xs.length c ∧ v1 = .slice n (xs.drop m).length (c - m) ∧ (∀ W2 : World, (Instr.slice 29 (.slice A xs.length c) (some (.int .i64 (m : Int))) none none).run Tryz.prog W2 = .ok v1 W2) ∧ IsTl W v1 (xs.drop m) ∧ (∀ i, tlB v1 i → tlB v i) := by
  obtain ⟨A, cap, rfl, k1, k2, k3, k4, k5⟩ := h
  have ht := Tryz.underlying29
  have hel : Program.elem Tryz.prog 29 = 5 := by simp [Program.elem, ht]
  have hu : Program.underlying Tryz.prog 29 = some (.slice (Program.elem Tryz.prog 29)) := by rw [hel]; exact ht
  have hl : (xs.drop m).length = xs.length - m := List.length_drop
  refine ⟨_, A, cap, if cap = m then A else A.map (·.add m), rfl, rfl, fun W2 => ?_, ?_, ?_⟩
  · rw [run_slice_l W2 29 A xs.length cap hu .i64 (m : Int) (Int.natCast_nonneg _) (by omega), hel, hl]
    simp [sizeOf, typeInfo, h1, h2, sliced, Result.andThen]
  · refine ⟨_, _, rfl, by omega, by omega, ?_, ?_, ?_⟩
    · rw [hl]
      exact k3.drop_ (c := cap) m hm k1
    · intro e
      by_cases hc : cap = m
      · omega
      · rw [if_neg hc] at e
        cases A with
        | none => have := k4 rfl; omega
        | some a => cases e
    · intro h0
      obtain ⟨g, off, rfl, hth⟩ := k5 (by omega)
      refine ⟨g, off + m, ?_, fun j hj => ?_⟩
      · rw [if_neg (by omega)]
        simp [Addr.add_lit]
      · rw [Nat.add_assoc]
        exact hth (m + j) (by omega)
  · rintro i ⟨ad, n1, c1, e, hc, rfl⟩
    injection e with e1 e2 e3
    obtain ⟨g, off, rfl, hth⟩ := k5 (by omega)
    rw [if_neg (by omega)] at e1
    simp only [Option.map_some, Addr.add_lit, Option.some.injEq] at e1
    exact ⟨_, _, _, rfl, by omega, by rw [← e1]⟩

/-- a feed at block g -/
def IsFd (W : World) (g : Nat) (v : Value) (fb : List Int) (fe : Int) : Prop := W.heap[g]? = some (.cells #[v, .int .i64 fe] 147 (0, 0)) ∧ IsTl W v fb ∧ ¬ tlB v g

theorem fdnew_calls (w : World) : Calls Tryz.prog 54 #[] w fun e w' => e = .returned (.pointer (some ⟨w.heap.size, 0, none⟩)) ∧ w' = w.alloc (.cells #[.slice none 0 0, .int .i64 0] 147) := by
  go_enter Tryz.func54, Tryz.ntmps54
  go_wp2
  go_returns
  exact ⟨rfl, rfl⟩
theorem fderr_calls (g : Nat) (v : Value) (fe : Int) (w : World) (h : w.heap[g]? = some (.cells #[v, .int .i64 fe] 147 (0, 0))) :
    Calls Tryz.prog 60 #[.pointer (some ⟨g, 0, none⟩)] w fun e w' => e = .returned (.int .i64 fe) ∧ w = w' := by
  have c1 : w.cell? ⟨g, 1, none⟩ = some (.int .i64 fe) := (blk_cell h 1).trans rfl
  have hg : g < w.heap.size := blk_lt h
  clear h
  go_enter Tryz.func60, Tryz.ntmps60
  go_wp2
  go_returns
  exact ⟨rfl, rfl⟩
def FrPush (x0 x1 x5 : Value) (a : Act) : Prop := ∃ u2 u3 u4 u6 u7 u8 u9 u10 u11 u12 u13 u14 u15 u16 u17 u18 u19 u20 u21 u22 u23 u24 u25 u26 u27 u28 u29 u30 u31 u32 u33 u34 u35 u36 u37 u38 u39 u40 u41 u42 u43 u44 u45 u46 u47 u48 u49 u50 u51 u52 u53 u54 u55 u56 : Value, a = { tmps := #[x0, x1, u2, u3, u4, x5, u6, u7, u8, u9, u10, u11, u12, u13, u14, u15, u16, u17, u18, u19, u20, u21, u22, u23, u24, u25, u26, u27, u28, u29, u30, u31, u32, u33, u34, u35, u36, u37, u38, u39, u40, u41, u42, u43, u44, u45, u46, u47, u48, u49, u50, u51, u52, u53, u54, u55, u56], defers := [] }

/-- what Push leaves -/
def FPush (fb bs : List Int) (g : Nat) (v : Value) (w : World) (e : Ending) (w' : World) : Prop :=
  ∃ v1 v2 L, e = .returned v2 ∧ L.map Prod.fst = (feedPush fb 0 bs).1 ∧ IsFd w' g v1 (feedPush fb 0 bs).2.1 (feedPush fb 0 bs).2.2 ∧
    FrmsAt w.heap.size (fun i => w.heap.size ≤ i ∧ ¬ tlB v1 i) w' v2 L ∧ (∀ i, tlB v1 i → tlB v i ∨ w.heap.size ≤ i) ∧ Fr (fun i => i = g ∨ tlB v i) w w'
/-- between two frames -/
def PushJ (F0 : Nat) (B0 : List Int) (g : Nat) (v x1 : Value) (w : World) (a : Act) (wr : World) : Prop :=
  ∃ (f : Nat) (fbk : List Int) (L : List (Frm × Value)) (vk v5 : Value), FrPush (.pointer (some ⟨g, 0, none⟩)) x1 v5 a ∧
    feedGo F0 B0 = (L.map Prod.fst ++ (feedGo f fbk).1, (feedGo f fbk).2) ∧ fbk.length < f ∧ fbk.length ≤ 100000 ∧ L.length ≤ 100000 ∧ L.length + fbk.length ≤ B0.length ∧ isB fbk ∧ IsFd wr g vk fbk 0 ∧
    FrmsAt w.heap.size (fun i => w.heap.size ≤ i ∧ ¬ tlB vk i) wr v5 L ∧ (∀ i, tlB vk i → tlB v i ∨ w.heap.size ≤ i) ∧ Fr (fun i => i = g ∨ tlB v i) w wr
def pushM (g : Nat) (w : World) : Nat := match w.cell? ⟨g, 0, none⟩ with
  | some (.slice _ n _) => n
  | _ => 0
theorem wp_scope_pass {P : Program} {a : Act} {w : World} {Q : Exit → Act → World → Prop} {c rest : Code} (l : Nat) (J : Act → World → Prop) (μ : Act → World → Nat) (hf : findLabel c l = some (Code.skip.seq rest))
    (pass : ∀ a w, J a w → rest.wp P (Exit.jump l (fun a' w' => J a' w' ∧ μ a' w' < μ a w) Q) a w)
    (first : (∀ a w, J a w → rest.wp P (Exit.jump l J Q) a w) → c.wp P (Exit.jump l J Q) a w) : (Code.scope c).wp P Q a w :=
  wp_scope_jumps l J μ hf (first fun a w h => wp_mono (pass a w h) (fun e a' w' he => by
    cases e with
    | goto l2 => exact ⟨he.1, he.2.1⟩
    | _ => exact he)) (fun a w h => wp_seq (wp_skip (pass a w h)))

set_option maxRecDepth 100000 in
set_option maxHeartbeats 2000000 in
theorem fdpush_calls (fb bs : List Int) (g : Nat) (v : Value) (A : Option Addr) (cp : Nat) (w : World) (h : IsFd w g v fb 0) (hfb : fb.length ≤ 5000) (hbl : bs.length ≤ 5000) (hb : isB fb) (hb2 : isB bs) (hr : ReadsInt w .u8 A bs.length bs) :
    Calls Tryz.prog 57 #[.pointer (some ⟨g, 0, none⟩), .slice A bs.length cp] w (FPush fb bs g v w) := by
  have HR := Aside0.mk hr
  have HB := Aside0.mk (And.intro hb hb2)
  have hFD := h
  obtain ⟨hblk, htl, hng⟩ := h
  obtain ⟨Av, cv, rfl, k1, k2, k3, k4, k5⟩ := htl
  have htl : IsTl w (.slice Av fb.length cv) fb := ⟨Av, cv, rfl, k1, k2, k3, k4, k5⟩
  have HTL := Aside0.mk htl
  have HBLK := Aside0.mk hblk
  have HNG := Aside0.mk hng
  have c0 : w.cell? ⟨g, 0, none⟩ = some (.slice Av fb.length cv) := (blk_cell hblk 0).trans rfl
  have c1 : w.cell? ⟨g, 1, none⟩ = some (.int .i64 0) := (blk_cell hblk 1).trans rfl
  have f0 := blk_frozen hblk 0
  have hg : g < w.heap.size := blk_lt hblk
  obtain ⟨i5, hi5, hz5⟩ := Option.map_eq_some_iff.1 info5
  simp only [Prod.mk.injEq] at hz5
  have HI5 := Aside0.mk (And.intro hi5 hz5.2.1)
  clear hi5 hz5 k1 k2 k3 k4 k5 htl hblk hng hr hb hb2 hFD
  go_enter Tryz.func57, Tryz.ntmps57
  go_wp2
  obtain ⟨x1, hx1⟩ : ∃ x1, x1 = Value.slice A bs.length cp := ⟨_, rfl⟩
  refine wp_scope_pass 0 (PushJ ((fb ++ bs).length + 1) (fb ++ bs) g (.slice Av fb.length cv) (.slice A bs.length cp) w) (fun _ w' => pushM g w') rfl ?pass ?first
  case first =>
    intro hp
    have HP := Aside0.mk hp
    clear hp
    obtain ⟨ys, hys⟩ : ∃ l, l = fb ++ bs := ⟨_, rfl⟩
    have hyl : ys.length ≤ 10000 := by rw [hys, List.length_append]; omega
    have HYS := Aside0.mk hys
    clear hys
    go_wp2_with (first | ((with_reducible refine gate_builtin (b := .append) (xs := #[.tmp 18, .tmp 19]) rfl ?_); at_builtin; refine app_tl rfl (.tmp 18) (.tmp 19) 29 rfl Tryz.underlying29 info5 (.slice Av fb.length cv) fb bs A bs.length cp rfl rfl HTL.out HR.out (by omega) ?_; intro v1 w1 ho1 hf1 hat1; rw [← HYS.out] at ho1; obtain ⟨A1, c1', rfl, l1, l2, l3, l4, l5⟩ := ho1; have HO1 : Aside0 (IsTl w1 (.slice A1 ys.length c1') ys) := ⟨⟨A1, c1', rfl, l1, l2, l3, l4, l5⟩⟩; have HF1 := Aside0.mk hf1; have HAT := Aside0.mk hat1; have hB1 := hf1.blk HBLK.out HNG.out; have HB1 := Aside0.mk hB1; have c01 : w1.cell? ⟨g, 0, none⟩ = some (.slice Av fb.length cv) := (blk_cell hB1 0).trans rfl; have f01 := blk_frozen hB1 0; clear l1 l2 l3 l4 l5 hf1 hat1 hB1 c0 c1))
    go_step3
    rename_i hK
    have hne : ¬ tlB (.slice A1 ys.length c1') g := fun h => by
      rcases HAT.out g h with h | h
      · exact HNG.out h
      · omega
    refine hK _ _ (HP.out _ _ ⟨(fb ++ bs).length + 1, ys, [], .slice A1 ys.length c1', .slice none 0 0, ⟨_, _, _, _, _, _, _, _, _, _, _, _, _, _, _, _, _, _, _, _, _, _, _, _, _, _, _, _, _, _, _, _, _, _, _, _, _, _, _, _, _, _, _, _, _, _, _, _, _, _, _, _, _, _, rfl⟩, ?_, ?_, by omega, by simp, ?_, ?_, ⟨blk_set HB1.out 0 _, HO1.out.fr ((Fr.refl (only g) w1).set (fun _ => rfl) 0 _) (fun i hi hs => hne (by cases hs; exact hi)), hne⟩, ⟨World.ownsRow_nil _ _ _ _, (fun i h => by cases h), (fun p hp => by simp at hp)⟩, HAT.out, ?_⟩)
    · rw [HYS.out]; simp
    · rw [HYS.out]; omega
    · rw [HYS.out]; simp
    · rw [HYS.out]
      intro x hx
      rcases List.mem_append.1 hx with hx | hx
      · exact HB.out.1 x hx
      · exact HB.out.2 x hx
    · exact (HF1.out.mono (fun i _ h => .inr h)).set (fun _ => .inl rfl) 0 _
  case pass =>
    clear c0 c1 f0
    rintro a wr ⟨f, fbk, L, vk, v5, ⟨u2, u3, u4, u6, u7, u8, u9, u10, u11, u12, u13, u14, u15, u16, u17, u18, u19, u20, u21, u22, u23, u24, u25, u26, u27, u28, u29, u30, u31, u32, u33, u34, u35, u36, u37, u38, u39, u40, u41, u42, u43, u44, u45, u46, u47, u48, u49, u50, u51, u52, u53, u54, u55, u56, rfl⟩, hE, hf, hl1, hl2, hl3, hbk, hFD, hFM, hT, hF⟩
    have hB0 : (fb ++ bs).length ≤ 10000 := by rw [List.length_append]; omega
    obtain ⟨hblk, htl, hng⟩ := hFD
    obtain ⟨Ak, ck, rfl, k1, k2, k3, k4, k5⟩ := htl
    have htl : IsTl wr (.slice Ak fbk.length ck) fbk := ⟨Ak, ck, rfl, k1, k2, k3, k4, k5⟩
    obtain ⟨A5, c5, rfl⟩ := own_slice hFM.row
    have HE := Aside0.mk hE
    have HBK := Aside0.mk hbk
    have HBL := Aside0.mk hblk
    have HTK := Aside0.mk htl
    have HNK := Aside0.mk hng
    have HFM := Aside0.mk hFM
    have HT := Aside0.mk hT
    have HF := Aside0.mk hF
    have HR3 := Aside0.mk k3
    have hgr : g < wr.heap.size := blk_lt hblk
    have hws : w.heap.size ≤ wr.heap.size := hF.size
    have c0 : wr.cell? ⟨g, 0, none⟩ = some (.slice Ak fbk.length ck) := (blk_cell hblk 0).trans rfl
    have hm : pushM g wr = fbk.length := by unfold pushM; rw [c0]
    have HM := Aside0.mk hm
    have HGB := Aside0.mk (getB_body fbk hbk)
    obtain ⟨f1, rfl⟩ : ∃ f1, f = f1 + 1 := ⟨f - 1, by omega⟩
    obtain ⟨gg, hgg⟩ : ∃ x, getB fbk = x := ⟨_, rfl⟩
    obtain ⟨⟨kk, body⟩, nn, ee⟩ := gg
    have HGG := Aside0.mk hgg
    rw [hgg] at HGB
    have hbody : body.length ≤ 2048 := HGB.out.2.1
    have hck : ck ≤ 9223372036854775807 := k2
    clear hE hbk hblk htl hng hFM hT hF k3 k4 k5 hm hgg
    by_cases he0 : ee = 0
    · subst he0
      have hn5 : 5 ≤ nn := by have := (getB_ok fbk (by rw [HGG.out])).1; rw [HGG.out] at this; exact this
      have hnl : nn ≤ fbk.length := by have := (getB_ok fbk (by rw [HGG.out])).2; rw [HGG.out] at this; exact this
      have HS : Aside0 (feedGo (f1 + 1) fbk = ((kk, body) :: (feedGo f1 (fbk.drop nn)).1, (feedGo f1 (fbk.drop nn)).2)) := ⟨by have := feedGo_ok f1 fbk (by rw [HGG.out]); rw [HGG.out] at this; exact this⟩
      obtain ⟨v1, A', c', n', e', hv1, hsl, htl1, hsub⟩ := tl_drop HI5.out.1 HI5.out.2 HTK.out nn hnl
      simp only [Value.slice.injEq] at e'
      obtain ⟨rfl, _, rfl⟩ := e'
      obtain ⟨fb2, hfb2⟩ : ∃ l, l = fbk.drop nn := ⟨_, rfl⟩
      have hl2' : fb2.length + nn ≤ fbk.length := by rw [hfb2, List.length_drop]; omega
      rw [← hfb2] at hv1 htl1 HS
      subst hv1
      have HT1 := Aside0.mk htl1
      have HSUB := Aside0.mk hsub
      have HB2 : Aside0 (isB fb2) := ⟨fun x hx => HBK.out x (List.mem_of_mem_drop (by rw [← hfb2]; exact hx))⟩
      clear hfb2 htl1 hsub
      go_wp2_with (first | (go_at_call 32; refine (fget_calls fbk Ak ck wr k1 hck HR3.out HBK.out).mono ?_; rw [HGG.out]; rintro e1 w1 ⟨vb, rfl, ho1, hf1⟩; obtain ⟨Ab, cb, rfl⟩ := own_slice ho1; have HO1 := Aside0.mk ho1; have HF1 := Aside0.mk hf1; have hs1 : wr.heap.size ≤ w1.heap.size := hf1.size; clear ho1 hf1) | ((with_reducible refine gate_builtin (b := .append) (xs := #[.tmp 34, .tmp 36]) rfl ?_); at_builtin; refine app_lit rfl (.tmp 34) (.tmp 36) 122 50 (.agg #[.int .u8 0, .slice none 0 0]) 2 32 rfl Tryz.underlying122 infoFrm (by decide) (by decide) w.heap.size (.slice A5 L.length c5) L.length (frs L) (w1.heap.size + 1) 1 #[.int .u8 kk, .slice Ab body.length cb] 50 rfl rfl ?aG rfl ?a1 ?aO ?aB ?aN (by decide) ?_; (case aG => exact blk_second w1 _ _); (case a1 => intro u hu; simp only [List.mem_cons, List.not_mem_nil, or_false] at hu; rcases hu with rfl | rfl <;> rfl); (case aO => exact (HF1.out.own HFM.out.row (fun _ _ h => h)).alloc _ |>.alloc _); (case aB => exact (by rw [World.size_alloc, World.size_alloc]; omega)); (case aN => exact (by omega)); intro v3 w3 ho3 hf3 hat3; obtain ⟨A3, c3, rfl⟩ := own_slice ho3; have HO3 := Aside0.mk ho3; have HF3 := Aside0.mk hf3; have HAT3 := Aside0.mk hat3; have hB3 := hf3.blk (blk_alloc (blk_alloc (HF1.out.blk HBL.out (fun h => h)) (.cells #[.int .u8 kk, .slice Ab body.length cb] 50)) (.cells #[.int .u8 kk, .slice Ab body.length cb] 50)) (fun hs => absurd (own_old HFM.out.row hs).1 (by omega)); have HB3 := Aside0.mk hB3; have c03 : w3.cell? ⟨g, 0, none⟩ = some (.slice Ak fbk.length ck) := (blk_cell hB3 0).trans rfl; have f03 := blk_frozen hB3 0; clear ho3 hf3 hat3 hB3 c0))
      go_step3
      have hS : ∀ i, (i = g ∨ rowOf (.slice A5 L.length c5) i) → ¬ tlB (.slice Ak fbk.length ck) i := fun i hi => by
        rcases hi with rfl | hi
        · exact HNK.out
        · exact (HFM.out.rowN i hi).2
      have hFF : Fr (fun i => i = g ∨ rowOf (.slice A5 L.length c5) i) wr (w3.setCell ⟨g, 0, none⟩ (.slice n' fb2.length (ck - nn))) :=
        ((((frAny HF1.out).alloc _).alloc _).trans HF3.out (fun i hi hs => .inr hs)).set (fun _ => .inl rfl) 0 _
      have hgo : some g ≠ (Value.slice A3 (L.length + 1) c3).ownBlock := fun e => absurd (HO3.out.lt g e.symm).1 (by omega)
      have hrow : (w3.setCell ⟨g, 0, none⟩ (.slice n' fb2.length (ck - nn))).ownsRow w.heap.size 50 2 (.slice A3 (L.length + 1) c3) (L.length + 1) (frs L ++ frC ((kk, body), .slice Ab body.length cb)) := own_setCell HO3.out hgo _
      have hat : (Value.slice A3 (L.length + 1) c3).ownBlock = (Value.slice A5 L.length c5).ownBlock ∨ ∃ b, (Value.slice A3 (L.length + 1) c3).ownBlock = some b ∧ wr.heap.size ≤ b := by
        rcases HAT3.out with h | h
        · exact .inl h
        · refine .inr ⟨_, h, ?_⟩
          rw [World.size_alloc, World.size_alloc]; omega
      have hbod : InN (fun i => wr.heap.size ≤ i ∧ i < (w3.setCell ⟨g, 0, none⟩ (.slice n' fb2.length (ck - nn))).heap.size ∧ (Value.slice A3 (L.length + 1) c3).ownBlock ≠ some i) (w3.setCell ⟨g, 0, none⟩ (.slice n' fb2.length (ck - nn))) (.slice Ab body.length cb) body := by
        have h0 := inN_own HO1.out
        have hlt := fun i hi => HO1.out.lt i hi
        have hF13 : Fr (fun i => i = g ∨ rowOf (.slice A5 L.length c5) i) w1 (w3.setCell ⟨g, 0, none⟩ (.slice n' fb2.length (ck - nn))) :=
          ((((Fr.refl _ w1).alloc _).alloc _).trans HF3.out (fun i hi hs => .inr hs)).set (fun _ => .inl rfl) 0 _
        refine (h0.fr hF13 (fun i hi hs => ?_)).mono (fun i hi => ?_)
        · have := hlt i hi
          rcases hs with rfl | hs
          · omega
          · have := (own_old HFM.out.row hs).2; omega
        · have h1 := hlt i hi
          refine ⟨h1.1, Nat.lt_of_lt_of_le h1.2 hF13.size, fun e => ?_⟩
          rcases HAT3.out with h | h
          · rw [h] at e; have := (own_old HFM.out.row e).2; omega
          · rw [h] at e; injection e with e; rw [World.size_alloc, World.size_alloc] at e; omega
      refine ⟨rfl, ⟨f1, fb2, L ++ [((kk, body), .slice Ab body.length cb)], .slice n' fb2.length (ck - nn), .slice A3 (L.length + 1) c3, ⟨_, _, _, _, _, _, _, _, _, _, _, _, _, _, _, _, _, _, _, _, _, _, _, _, _, _, _, _, _, _, _, _, _, _, _, _, _, _, _, _, _, _, _, _, _, _, _, _, _, _, _, _, _, _, rfl⟩, ?_, by omega, by omega, ?_, ?_, HB2.out, ⟨blk_set HB3.out 0 _, ?_, fun h => HNK.out (HSUB.out g h)⟩, ?_, ?_, ?_⟩, ?_⟩
      · rw [HE.out, HS.out]; simp
      · rw [List.length_append, List.length_singleton]; omega
      · rw [List.length_append, List.length_singleton]; omega
      · exact HT1.out.fr hFF (fun i hi hs => hS i hs (HSUB.out i hi))
      · exact frmsAt_snoc HFM.out hFF (fun i hi => by
          rcases hi with rfl | hi
          · exact .inr (fun hN => by omega)
          · exact .inl hi) hrow hat hbod (fun i hi => ⟨hi.1, fun h => hi.2 (HSUB.out i h)⟩) (fun i hi => ⟨by omega, fun h => absurd (HTK.out.lt (HSUB.out i h)) (by omega)⟩)
      · exact fun i hi => HT.out i (HSUB.out i hi)
      · refine HF.out.trans hFF (fun i hi hs => ?_)
        rcases hs with rfl | hs
        · exact .inl rfl
        · exact absurd (own_old HFM.out.row hs).1 (by omega)
      · rw [HM.out]
        have hc : (w3.setCell ⟨g, 0, none⟩ (.slice n' fb2.length (ck - nn))).cell? ⟨g, 0, none⟩ = some (.slice n' fb2.length (ck - nn)) := (blk_cell (blk_set HB3.out 0 _) 0).trans rfl
        unfold pushM
        rw [hc]
        show fb2.length < fbk.length
        omega
    · have HGE := Aside0.mk (getB_err fbk)
      by_cases he5 : ee = 5
      · subst he5
        have HS : Aside0 (feedGo (f1 + 1) fbk = ([], fbk, 0)) := ⟨feedGo_short f1 fbk (by rw [HGG.out])⟩
        clear he0
        go_wp2_with (first | (go_at_call 32; refine (fget_calls fbk Ak ck wr k1 hck HR3.out HBK.out).mono ?_; rw [HGG.out]; rintro e1 w1 ⟨vb, rfl, ho1, hf1⟩; obtain ⟨Ab, cb, rfl⟩ := own_slice ho1; have HF1 := Aside0.mk hf1; clear ho1 hf1))
        go_returns
        have hfe : feedPush fb 0 bs = (L.map Prod.fst, fbk, 0) := by
          unfold feedPush
          rw [if_pos rfl, HE.out, HS.out]; simp
        refine ⟨.slice Ak fbk.length ck, .slice A5 L.length c5, L, rfl, by rw [hfe], ?_, ?_, HT.out, ?_⟩
        · rw [hfe]
          exact ⟨blk_alloc (HF1.out.blk HBL.out (fun h => h)) _, HTK.out.fr (HF1.out.alloc _) (fun _ _ h => h), HNK.out⟩
        · exact HFM.out.fr (HF1.out.alloc _) (fun _ _ h => h)
        · exact frThru HF.out (HF1.out.alloc _)
      · have HS : Aside0 (feedGo (f1 + 1) fbk = ([], [], ee)) := ⟨by have := feedGo_bad f1 fbk (by rw [HGG.out]; exact he0) (by rw [HGG.out]; exact he5); rw [HGG.out] at this; exact this⟩
        have t0 : (ee == 0) = false := beq_eq_false_iff_ne.2 he0
        have t5 : (ee != 5) = true := by rw [bne_iff_ne]; exact he5
        have c1' : wr.cell? ⟨g, 1, none⟩ = some (.int .i64 0) := (blk_cell HBL.out 1).trans rfl
        clear he0 he5
        go_wp2_with (first | (go_at_call 32; refine (fget_calls fbk Ak ck wr k1 hck HR3.out HBK.out).mono ?_; rw [HGG.out]; rintro e1 w1 ⟨vb, rfl, ho1, hf1⟩; obtain ⟨Ab, cb, rfl⟩ := own_slice ho1; have HF1 := Aside0.mk hf1; have hB1 := hf1.blk HBL.out (fun h => h); have c01 : ∀ o, (w1.alloc o).cell? ⟨g, 0, none⟩ = some (.slice Ak fbk.length ck) := (fun o => (blk_cell (blk_alloc hB1 o) 0).trans rfl); have c11 : ∀ o, (w1.alloc o).cell? ⟨g, 1, none⟩ = some (.int .i64 0) := (fun o => (blk_cell (blk_alloc hB1 o) 1).trans rfl); have f01 := (fun o => blk_frozen (blk_alloc hB1 o) 0); have f11 := (fun o => blk_frozen (blk_alloc hB1 o) 1); have hs1 : wr.heap.size ≤ w1.heap.size := hf1.size; clear ho1 hf1 hB1))
        go_returns
        have hfe : feedPush fb 0 bs = (L.map Prod.fst, [], ee) := by
          unfold feedPush
          rw [if_pos rfl, HE.out, HS.out]; simp
        have hFF : Fr (only g) wr (((w1.alloc (.cells #[.int .u8 kk, .slice Ab body.length cb] 50)).setCell ⟨g, 1, none⟩ (.int .i64 ee)).setCell ⟨g, 0, none⟩ (.slice none 0 0)) :=
          (((frAny (S := only g) HF1.out).alloc _).set (g := g) (fun _ => only_self g) 1 _).set (g := g) (fun _ => only_self g) 0 _
        refine ⟨.slice none 0 0, .slice A5 L.length c5, L, rfl, by rw [hfe], ?_, ?_, (fun i hi => by obtain ⟨ad, n, c, e, _⟩ := hi; cases e), ?_⟩
        · rw [hfe]
          exact ⟨blk_set (blk_set (blk_alloc (HF1.out.blk HBL.out (fun h => h)) _) 1 _) 0 _, isTl_nil _, fun hi => by obtain ⟨ad, n, c, e, _⟩ := hi; cases e⟩
        · have h1 := HFM.out.fr hFF (fun i hi hs => by cases hs; omega)
          exact ⟨h1.row, fun i hi => ⟨(h1.rowN i hi).1, fun h => by obtain ⟨ad, n, c, e, _⟩ := h; cases e⟩, fun p hp => (h1.body p hp).mono (fun i hi => ⟨hi.1, ⟨hi.2.1.1, fun h => by obtain ⟨ad, n, c, e, _⟩ := h; cases e⟩, hi.2.2⟩)⟩
        · exact HF.out.trans hFF (fun i hi hs => .inl hs)
end Go.Proofs.YtfkamoiamebngaaGreatDoor.BroW

/- Small whole numbers as floats of 64 bits: sums, differences, order, and back. Plain. -/
namespace Go.Proofs.YtfkamoiamebngaaGreatDoor.Flt

/-- the float of a whole number -/
def F (n : Nat) : Nat := floatOfInt .f64 (n : Int)
theorem F_def (n : Nat) : F n = Ieee.Format.nearest Ieee.double false n 0 := by
  show FloatKind.f64.format.write (.number (decide ((n : Int) < 0)) (n : Int).natAbs 0) = _
  rw [show decide ((n : Int) < 0) = false from decide_eq_false (by omega)]
  rfl
theorem F_zero : F 0 = 0 := by decide +kernel
theorem F_one : F 1 = 4607182418800017408 := by decide +kernel

theorem below {p : Nat → Prop} (h : ∀ q < 130, ∀ r < 64, p (64 * q + r)) : ∀ n, n < 8300 → p n := by
  intro n hn
  have := h (n / 64) (by omega) (n % 64) (by omega)
  rwa [Nat.div_add_mod] at this

/-- what F n reads as -/
def unitsOk (n : Nat) : Bool := match Ieee.double.read (F n) with
  | .number false m p => decide (-1074 ≤ p) && (decide (p ≤ 0) && (decide (m < 2 ^ 53) && decide (m * 2 ^ (p + 1074).toNat = n * 2 ^ 1074)))
  | _ => false
set_option maxHeartbeats 0 in
theorem units : ∀ n, n < 8300 → unitsOk n = true := below (by decide +kernel)

theorem read_F (n : Nat) (h : n < 8300) : ∃ m p, Ieee.double.read (F n) = .number false m p ∧ -1074 ≤ p ∧ p ≤ 0 ∧ m < 2 ^ 53 ∧ m = n * 2 ^ (-p).toNat := by
  have u := units n h
  unfold unitsOk at u
  revert u
  generalize Ieee.double.read (F n) = x
  intro u
  cases x with
  | number s m p =>
    cases s
    · simp only [Bool.and_eq_true, decide_eq_true_eq] at u
      obtain ⟨h1, h2, h3, h4⟩ := u
      refine ⟨m, p, rfl, h1, h2, h3, ?_⟩
      have e : (1074 : Nat) = (-p).toNat + (p + 1074).toNat := by omega
      have h5 : m * 2 ^ (p + 1074).toNat = n * 2 ^ ((-p).toNat + (p + 1074).toNat) := by rw [← e]; exact h4
      rw [Nat.pow_add, ← Nat.mul_assoc] at h5
      exact Nat.eq_of_mul_eq_mul_right ((Nat.two_pow_pos _)) h5
    · cases u
  | infinity _ => cases u
  | nan _ _ => cases u

theorem log2_shift (m k : Nat) (h : m ≠ 0) : (m * 2 ^ k).log2 = m.log2 + k := by
  have hp : 0 < 2 ^ k := (Nat.two_pow_pos _)
  have h1 := Nat.log2_self_le h
  have h2 := @Nat.lt_log2_self m
  apply Nat.le_antisymm
  · have : (m * 2 ^ k) < 2 ^ (m.log2 + k + 1) := by
      rw [show m.log2 + k + 1 = (m.log2 + 1) + k by omega, Nat.pow_add]
      exact Nat.mul_lt_mul_of_pos_right h2 hp
    have := (Nat.log2_lt (Nat.mul_ne_zero h (by omega))).2 this
    omega
  · rw [Nat.le_log2 (Nat.mul_ne_zero h (by omega)), Nat.pow_add]
    exact Nat.mul_le_mul_right _ h1

theorem nearest_shift (m k : Nat) (p : Int) (hm : m < 2 ^ 53) (hp : -1074 ≤ p) : Ieee.double.nearest false (m * 2 ^ k) (p - k) = Ieee.double.nearest false m p := by
  have hk : 0 < 2 ^ k := (Nat.two_pow_pos _)
  by_cases h0 : m = 0
  · subst h0; simp [Ieee.Format.nearest]
  have h1 : m * 2 ^ k ≠ 0 := Nat.mul_ne_zero h0 (by omega)
  have hl : m.log2 ≤ 52 := by have := (Nat.log2_lt h0).2 hm; omega
  unfold Ieee.Format.nearest
  rw [if_neg h0, if_neg h1, log2_shift m k h0]
  have hf : ((Ieee.double.fractionBits : Nat) : Int) = 52 := rfl
  have hlp : Ieee.double.leastPlace = -1074 := by decide
  have hlast : max (p - (k : Int) + ((m.log2 + k : Nat) : Int) - (Ieee.double.fractionBits : Int)) Ieee.double.leastPlace = max (p + (m.log2 : Int) - (Ieee.double.fractionBits : Int)) Ieee.double.leastPlace := by
    congr 1
    omega
  simp only [hlast]
  have hL : max (p + (m.log2 : Int) - (Ieee.double.fractionBits : Int)) Ieee.double.leastPlace ≤ p := by rw [hf, hlp]; omega
  generalize max (p + (m.log2 : Int) - (Ieee.double.fractionBits : Int)) Ieee.double.leastPlace = L at *
  have e2 : Ieee.Toward.even.cut false (m <<< (p - L).toNat) (L - p).toNat = m * 2 ^ (p - L).toNat := by
    rw [show (L - p).toNat = 0 by omega, Nat.shiftLeft_eq]
    simp [Ieee.Toward.cut, Nat.mod_one]
  have e1 : Ieee.Toward.even.cut false ((m * 2 ^ k) <<< (p - (k : Int) - L).toNat) (L - (p - (k : Int))).toNat = m * 2 ^ (p - L).toNat := by
    by_cases hc : L ≤ p - (k : Int)
    · rw [show (L - (p - (k : Int))).toNat = 0 by omega, Nat.shiftLeft_eq, Nat.mul_assoc, ← Nat.pow_add, show k + (p - (k : Int) - L).toNat = (p - L).toNat by omega]
      simp [Ieee.Toward.cut, Nat.mod_one]
    · rw [show (p - (k : Int) - L).toNat = 0 by omega, Nat.shiftLeft_zero]
      have hd : (L - (p - (k : Int))).toNat = k - (p - L).toNat := by omega
      have hd2 : (p - L).toNat ≤ k := by omega
      rw [hd]
      generalize (p - L).toNat = q at *
      have hmin : min (k - q) ((m * 2 ^ k).log2 + 2) = k - q := by
        rw [log2_shift m k h0]; omega
      have he : m * 2 ^ k = m * 2 ^ q * 2 ^ (k - q) := by
        rw [Nat.mul_assoc, ← Nat.pow_add, show q + (k - q) = k by omega]
      have hq : 0 < 2 ^ (k - q) := (Nat.two_pow_pos _)
      unfold Ieee.Toward.cut
      simp only [hmin, Nat.shiftLeft_eq, Nat.one_mul]
      rw [he, Nat.mul_div_cancel _ hq, Nat.mul_mod_left]
      have : (decide (2 ^ (k - q) < 2 * 0) || (2 ^ (k - q) == 2 * 0 && m * 2 ^ q % 2 == 1)) = false := by
        have h3 : ¬ 2 ^ (k - q) < 2 * 0 := by omega
        have h4 : ¬ (2 ^ (k - q) = 2 * 0) := by omega
        simp only [h3, decide_false, Bool.false_or, Bool.and_eq_false_imp, beq_iff_eq]
        intro h5; exact absurd h5 h4
      rw [this]
      rfl
  rw [e1, e2]

theorem write_at (n k : Nat) (hn : n < 2 ^ 53) : Ieee.double.nearest false (n * 2 ^ k) (-(k : Int)) = F n := by
  rw [F_def, ← nearest_shift n k 0 hn (by decide)]
  congr 1
  omega

theorem neg_zero : Ieee.double.read 9223372036854775808 = (Ieee.double.read (F 0)).opposite := by decide +kernel
theorem neg_one : Ieee.double.read 13830554455654793216 = (Ieee.double.read (F 1)).opposite := by decide +kernel

theorem add_F (a b : Nat) (ha : a < 8300) (hb : b < 8300) : floatBits .add .f64 (F a) (F b) = some (F (a + b)) := by
  obtain ⟨m, i, r1, h1, h2, h3, h4⟩ := read_F a ha
  obtain ⟨n, j, r2, h5, h6, h7, h8⟩ := read_F b hb
  show ((Ieee.double.read (F a)).sum (Ieee.double.read (F b))).map Ieee.double.write = _
  rw [r1, r2]
  simp only [Ieee.Datum.sum, Ieee.signed, Bool.false_eq_true, if_false, Option.map_some]
  have e1 : m <<< (i - min i j).toNat = a * 2 ^ (-(min i j)).toNat := by
    rw [h4, Nat.shiftLeft_eq, Nat.mul_assoc, ← Nat.pow_add]
    congr 2
    omega
  have e2 : n <<< (j - min i j).toNat = b * 2 ^ (-(min i j)).toNat := by
    rw [h8, Nat.shiftLeft_eq, Nat.mul_assoc, ← Nat.pow_add]
    congr 2
    omega
  rw [e1, e2]
  have hk : min i j = -(((-(min i j)).toNat : Nat) : Int) := by omega
  generalize (-(min i j)).toNat = k at *
  rw [hk, ← write_at (a + b) k (by omega), Nat.add_mul]
  generalize a * 2 ^ k = x
  generalize b * 2 ^ k = y
  have hs : (if ((x : Nat) : Int) + ((y : Nat) : Int) = 0 then false && false else decide (((x : Nat) : Int) + ((y : Nat) : Int) < 0)) = false := by
    split
    · rfl
    · exact decide_eq_false (by omega)
  rw [hs]
  show some (Ieee.double.nearest false _ _) = _
  congr 2

theorem sum_opp (a b : Nat) (ha : a < 8300) (hb : b ≤ a) : ((Ieee.double.read (F a)).sum (Ieee.double.read (F b)).opposite).map Ieee.double.write = some (F (a - b)) := by
  obtain ⟨m, i, r1, h1, h2, h3, h4⟩ := read_F a ha
  obtain ⟨n, j, r2, h5, h6, h7, h8⟩ := read_F b (by omega)
  rw [r1, r2]
  simp only [Ieee.Datum.sum, Ieee.Datum.opposite, Ieee.signed, Bool.false_eq_true, if_false, Option.map_some, Bool.not_false, if_true]
  have e1 : m <<< (i - min i j).toNat = a * 2 ^ (-(min i j)).toNat := by
    rw [h4, Nat.shiftLeft_eq, Nat.mul_assoc, ← Nat.pow_add]
    congr 2
    omega
  have e2 : n <<< (j - min i j).toNat = b * 2 ^ (-(min i j)).toNat := by
    rw [h8, Nat.shiftLeft_eq, Nat.mul_assoc, ← Nat.pow_add]
    congr 2
    omega
  rw [e1, e2]
  have hk : min i j = -(((-(min i j)).toNat : Nat) : Int) := by omega
  generalize (-(min i j)).toNat = k at *
  rw [hk, ← write_at (a - b) k (by omega), Nat.sub_mul]
  have hle : b * 2 ^ k ≤ a * 2 ^ k := Nat.mul_le_mul_right _ hb
  generalize a * 2 ^ k = x at *
  generalize b * 2 ^ k = y at *
  have hs : (if ((x : Nat) : Int) + -((y : Nat) : Int) = 0 then false && true else decide (((x : Nat) : Int) + -((y : Nat) : Int) < 0)) = false := by
    split
    · rfl
    · exact decide_eq_false (by omega)
  rw [hs]
  show some (Ieee.double.nearest false _ _) = _
  congr 2
  omega

theorem sub_F (a b : Nat) (ha : a < 8300) (hb : b ≤ a) : floatBits .sub .f64 (F a) (F b) = some (F (a - b)) := sum_opp a b ha hb

theorem add_one (n : Nat) (h : n < 8299) : floatBits .add .f64 (F n) 4607182418800017408 = some (F (n + 1)) := by rw [← F_one]; exact add_F n 1 (by omega) (by decide)
theorem add_zero (n : Nat) (h : n < 8300) : floatBits .add .f64 (F n) 0 = some (F n) := add_F n 0 h (by decide)
theorem add_negzero (n : Nat) (h : n < 8300) : floatBits .add .f64 (F n) 9223372036854775808 = some (F n) := by
  show ((Ieee.double.read (F n)).sum (Ieee.double.read 9223372036854775808)).map Ieee.double.write = _
  rw [neg_zero]; exact sum_opp n 0 h (by omega)
theorem add_minus (n : Nat) (h : n < 8299) : floatBits .add .f64 (F (n + 1)) 13830554455654793216 = some (F n) := by
  show ((Ieee.double.read (F (n + 1))).sum (Ieee.double.read 13830554455654793216)).map Ieee.double.write = _
  rw [neg_one]; exact sum_opp (n + 1) 1 (by omega) (by omega)
theorem add_minus_zero : floatBits .add .f64 (F 0) 13830554455654793216 = some 13830554455654793216 := by decide +kernel
theorem sub_one (n : Nat) (h : n < 8299) : floatBits .sub .f64 (F (n + 1)) 4607182418800017408 = some (F n) := by rw [← F_one]; exact sub_F (n + 1) 1 (by omega) (by omega)

theorem to_int (n : Nat) (h : n < 8300) : floatToIntVal .f64 (F n) .i64 = some (n : Int) := by
  obtain ⟨m, p, r1, h1, h2, h3, h4⟩ := read_F n h
  have e : (FloatKind.f64.decode (F n)).toInt .zero = some (n : Int) := by
    show (Ieee.double.read (F n)).toInt .zero = _
    rw [r1]
    simp only [Ieee.Datum.toInt, Ieee.Datum.integral, Ieee.signed, Bool.false_eq_true, if_false]
    rw [show p.toNat = 0 by omega, Nat.shiftLeft_zero, Nat.shiftLeft_zero]
    generalize (-p).toNat = k at *
    congr 2
    subst h4
    by_cases h0 : n = 0
    · subst h0; simp [Ieee.Toward.cut]
    · unfold Ieee.Toward.cut
      have hmin : min k ((n * 2 ^ k).log2 + 2) = k := by rw [log2_shift n k h0]; omega
      simp only [hmin, Nat.shiftLeft_eq, Nat.one_mul]
      rw [Nat.mul_div_cancel _ ((Nat.two_pow_pos _))]
      rfl
  unfold floatToIntVal
  rw [e]
  have h1 : IntKind.min .i64 ≤ (n : Int) := by show (-9223372036854775808 : Int) ≤ _; omega
  have h2 : (n : Int) ≤ IntKind.max .i64 := by show _ ≤ (9223372036854775807 : Int); omega
  simp only [h1, h2, and_self, if_true]

theorem order_F (a b : Nat) (ha : a < 8300) (hb : b < 8300) : FloatKind.f64.format.order (F a) (F b) = some (compare a b) := by
  obtain ⟨m, i, r1, h1, h2, h3, h4⟩ := read_F a ha
  obtain ⟨n, j, r2, h5, h6, h7, h8⟩ := read_F b hb
  show ((Ieee.double.read (F a)).order (Ieee.double.read (F b))) = _
  rw [r1, r2]
  simp only [Ieee.Datum.order, Ieee.signed, Bool.false_eq_true, if_false, Option.some.injEq]
  have e1 : m <<< (i - min i j).toNat = a * 2 ^ (-(min i j)).toNat := by
    rw [h4, Nat.shiftLeft_eq, Nat.mul_assoc, ← Nat.pow_add]
    congr 2
    omega
  have e2 : n <<< (j - min i j).toNat = b * 2 ^ (-(min i j)).toNat := by
    rw [h8, Nat.shiftLeft_eq, Nat.mul_assoc, ← Nat.pow_add]
    congr 2
    omega
  rw [e1, e2]
  generalize (-(min i j)).toNat = k at *
  have hk : 0 < 2 ^ k := (Nat.two_pow_pos _)
  rcases Nat.lt_trichotomy a b with h | h | h
  · have := Nat.mul_lt_mul_of_pos_right h hk
    rw [Nat.compare_eq_lt.2 h, Int.compare_eq_lt.2 (by omega)]
  · subst h
    rw [Nat.compare_eq_eq.2 rfl, Int.compare_eq_eq.2 rfl]
  · have := Nat.mul_lt_mul_of_pos_right h hk
    rw [Nat.compare_eq_gt.2 h, Int.compare_eq_gt.2 (by omega)]
end Go.Proofs.YtfkamoiamebngaaGreatDoor.Flt

/- The place of the next sign as a plain function of bytes; and what the statements' own model does. Plain. -/
namespace Go.Proofs.YtfkamoiamebngaaGreatDoor.SpotP
open Go.Proofs.YtfkamoiamebngaaGreatDoor.Flt

structure Sp where
  w : Nat
  c : Nat
  r : Nat
  st : Nat
  deriving DecidableEq

def sp0 (w : Nat) : Sp := ⟨w, 0, 0, 0⟩
def signS (s : Sp) : Sp := if s.c + 1 = s.w then { s with c := 0, r := s.r + 1 } else { s with c := s.c + 1 }
def oneS (s : Sp) (b : Int) : Sp :=
  if b = 27 then { s with st := 1 }
  else if b = 13 then { s with c := 0 }
  else if b = 10 then { s with r := s.r + 1 }
  else if b = 8 then { s with c := s.c - 1 }
  else if b = 9 then { s with c := min (8 * (s.c / 8 + 1)) (s.w - 1) }
  else if 32 ≤ b ∧ b ≠ 127 then signS s
  else s
def moveS (s : Sp) (b : Int) : Sp :=
  if b = 65 then { s with r := s.r - 1 }
  else if b = 66 then { s with r := s.r + 1 }
  else if b = 67 then { s with c := min (s.c + 1) (s.w - 1) }
  else if b = 68 then { s with c := s.c - 1 }
  else s
def byteS (s : Sp) (b : Int) : Sp :=
  if s.st = 0 then oneS s b
  else if s.st = 1 then { s with st := if b = 91 then 2 else 0 }
  else moveS { s with st := 0 } b
def allS (s : Sp) (bs : List Int) : Sp := bs.foldl byteS s
/-- what always holds -/
def SpGood (s : Sp) : Prop := s.c < s.w ∧ s.w ≤ 500 ∧ s.st ≤ 2

theorem allS_append (s : Sp) (a b : List Int) : allS s (a ++ b) = allS (allS s a) b := List.foldl_append
theorem good_one (s : Sp) (b : Int) (h : SpGood s) : SpGood (oneS s b) := by
  obtain ⟨h1, h2, h3⟩ := h
  unfold oneS signS SpGood
  repeat' split
  all_goals try simp only
  all_goals omega
theorem good_move (s : Sp) (b : Int) (h : SpGood s) : SpGood (moveS s b) := by
  obtain ⟨h1, h2, h3⟩ := h
  unfold moveS SpGood
  repeat' split
  all_goals try simp only
  all_goals omega
theorem good_byte (s : Sp) (b : Int) (h : SpGood s) : SpGood (byteS s b) := by
  unfold byteS
  split
  · exact good_one s b h
  · split
    · obtain ⟨h1, h2, h3⟩ := h
      refine ⟨h1, h2, ?_⟩
      show (if b = 91 then 2 else 0) ≤ 2
      split <;> omega
    · exact good_move _ b ⟨h.1, h.2.1, Nat.zero_le _⟩
theorem row_byte (s : Sp) (b : Int) : (byteS s b).r ≤ s.r + 1 := by
  unfold byteS oneS moveS signS
  repeat' split
  all_goals try simp only
  all_goals omega
theorem good_all (l : List Int) : ∀ s, SpGood s → SpGood (allS s l) := by
  induction l with
  | nil => intro s h; exact h
  | cons b l ih => intro s h; exact ih _ (good_byte s b h)
theorem row_all (l : List Int) : ∀ s, (allS s l).r ≤ s.r + l.length := by
  induction l with
  | nil => intro s; exact Nat.le_refl _
  | cons b l ih => intro s; have := ih (byteS s b); have h2 := row_byte s b; show (allS (byteS s b) l).r ≤ _; simp only [List.length_cons]; omega
theorem allS_take (bs : List Int) (s0 : Sp) (k : Nat) (h : k < bs.length) : allS s0 (bs.take (k + 1)) = byteS (allS s0 (bs.take k)) (bs.getD k 0) := by
  rw [List.take_succ_eq_append_getElem h, allS_append]
  simp [allS, h]

-- the least and the greatest of two floats
def fmin (x y : Nat) : Option Nat := match FloatKind.f64.format.order x y with
  | none => none
  | some .lt => some x
  | some .gt => some y
  | some .eq => some (if (FloatKind.f64.decode x).neg then x else y)
def fmax (x y : Nat) : Option Nat := match FloatKind.f64.format.order x y with
  | none => none
  | some .lt => some y
  | some .gt => some x
  | some .eq => some (if (FloatKind.f64.decode x).neg then y else x)
theorem fmin_F (a b : Nat) (ha : a < 8300) (hb : b < 8300) : fmin (F a) (F b) = some (F (min a b)) := by
  unfold fmin
  rw [order_F a b ha hb]
  rcases Nat.lt_trichotomy a b with h | h | h
  · rw [Nat.compare_eq_lt.2 h, Nat.min_eq_left (by omega)]
  · subst h; rw [Nat.compare_eq_eq.2 rfl]; simp
  · rw [Nat.compare_eq_gt.2 h, Nat.min_eq_right (by omega)]
theorem fmax_F (a b : Nat) (ha : a < 8300) (hb : b < 8300) : fmax (F a) (F b) = some (F (max a b)) := by
  unfold fmax
  rw [order_F a b ha hb]
  rcases Nat.lt_trichotomy a b with h | h | h
  · rw [Nat.compare_eq_lt.2 h, Nat.max_eq_right (by omega)]
  · subst h; rw [Nat.compare_eq_eq.2 rfl]; simp
  · rw [Nat.compare_eq_gt.2 h, Nat.max_eq_left (by omega)]
theorem fmax_zero (b : Nat) (hb : b < 8300) : fmax 0 (F b) = some (F b) := by
  have := fmax_F 0 b (by decide) hb
  rwa [F_zero, Nat.zero_max] at this
theorem fmax_minus : fmax 0 13830554455654793216 = some (F 0) := by decide +kernel
theorem fmin_minus (b : Nat) (hb : b < 8300) : fmin 13830554455654793216 (F b) = some 13830554455654793216 := by
  unfold fmin
  obtain ⟨m, p, r1, h1, h2, h3, h4⟩ := read_F b hb
  have hr : Ieee.double.read 13830554455654793216 = .number true 4503599627370496 (-52) := by decide +kernel
  have : FloatKind.f64.format.order 13830554455654793216 (F b) = some .lt := by
    show (Ieee.double.read 13830554455654793216).order (Ieee.double.read (F b)) = _
    rw [r1, hr]
    simp only [Ieee.Datum.order, Ieee.signed, if_true, Bool.false_eq_true, if_false, Option.some.injEq]
    have hp : 0 < 4503599627370496 <<< ((-52 : Int) - min (-52) p).toNat := by
      rw [Nat.shiftLeft_eq]
      exact Nat.mul_pos (by decide) (Nat.two_pow_pos _)
    generalize 4503599627370496 <<< ((-52 : Int) - min (-52) p).toNat = x at *
    generalize m <<< (p - min (-52) p).toNat = y
    exact Int.compare_eq_lt.2 (by omega)
  rw [this]
theorem run_fmin {P : Program} (w : World) (ts : Array TypeId) (t : TypeId) (x y m : Nat) (h : fmin x y = some m) : (Builtin.min_ ts t #[.float .f64 x, .float .f64 y]).run P w = .ok (.float .f64 m) w := by
  show (Builtin.min2 (.float .f64 x) (.float .f64 y) >>= fun a => pure a).run P w = _
  unfold fmin at h
  simp only [Builtin.min2]
  revert h
  generalize FloatKind.f64.format.order x y = o
  intro h
  cases o with
  | none => cases h
  | some o => cases o <;> simp at h <;> simp [h]
theorem run_fmax {P : Program} (w : World) (ts : Array TypeId) (t : TypeId) (x y m : Nat) (h : fmax x y = some m) : (Builtin.max_ ts t #[.float .f64 x, .float .f64 y]).run P w = .ok (.float .f64 m) w := by
  show (Builtin.max2 (.float .f64 x) (.float .f64 y) >>= fun a => pure a).run P w = _
  unfold fmax at h
  simp only [Builtin.max2]
  revert h
  generalize FloatKind.f64.format.order x y = o
  intro h
  cases o with
  | none => cases h
  | some o => cases o <;> simp at h <;> simp [h]
theorem csum_F (op : BinOp) (a b c d re im : Nat) (h1 : floatBits op .f64 a c = some re) (h2 : floatBits op .f64 b d = some im) : cSumBits op .f64 a b c d = some (re, im) := by
  simp [cSumBits, h1, h2]
theorem turn0 : cMulBits 4607182418800017408 0 0 4607182418800017408 = some (0, 4607182418800017408) := by decide +kernel
theorem turn1 : cMulBits 0 4607182418800017408 0 4607182418800017408 = some (13830554455654793216, 0) := by decide +kernel
theorem turn2 : cMulBits 13830554455654793216 0 0 4607182418800017408 = some (9223372036854775808, 13830554455654793216) := by decide +kernel
end Go.Proofs.YtfkamoiamebngaaGreatDoor.SpotP

/- What the functions of spot do to memory. -/
namespace Go.Proofs.YtfkamoiamebngaaGreatDoor.SpotW
open Go.RowKit Go.Proofs.YtfkamoiamebngaaGreatDoorW.PrintWords Go.Proofs.YtfkamoiamebngaaGreatDoorW.PrintMore Go.Proofs.YtfkamoiamebngaaGreatDoor.Fr Go.Proofs.YtfkamoiamebngaaGreatDoor.SpotP Go.Proofs.YtfkamoiamebngaaGreatDoor.Flt
set_option linter.unusedVariables false
set_option linter.unusedSimpArgs false
theorem run_store_float (P : Program) (w : World) (a : Addr) (m : Mode) (k : FloatKind) (b : Nat) : (store a (.float k b) m).run P w = stored P w a (.float k b) m := run_store P w a _ m rfl
theorem run_store_complex (P : Program) (w : World) (a : Addr) (m : Mode) (k : FloatKind) (x y : Nat) : (store a (.complex k x y) m).run P w = stored P w a (.complex k x y) m := run_store P w a _ m rfl
attribute [local go_sem] run_store_float run_store_complex

/-- a spot at block g -/
def IsSpot (W : World) (g : Nat) (s : Sp) : Prop :=
  W.heap[g]? = some (.cells #[.float .f64 (F s.w), .complex .f64 (F s.c) (F s.r), .int .i64 s.st] 158 (0, 0))

def zre : Nat → Nat | 0 => 4607182418800017408 | 1 => 0 | 2 => 13830554455654793216 | _ => 9223372036854775808
def zim : Nat → Nat | 0 => 0 | 1 => 4607182418800017408 | 2 => 0 | _ => 13830554455654793216

theorem turns_calls (n : Nat) (hn : n < 4) (w : World) :
    Calls Tryz.prog 87 #[.int .i64 n] w fun e w' => e = .returned (.complex .f64 (zre n) (zim n)) ∧ w' = w := by
  have hz : ∀ k, k < 3 → cMulBits (zre k) (zim k) 0 4607182418800017408 = some (zre (k + 1), zim (k + 1)) := by
    intro k hk
    obtain rfl | rfl | rfl : k = 0 ∨ k = 1 ∨ k = 2 := by omega
    · exact turn0
    · exact turn1
    · exact turn2
  have HZ := Aside0.mk hz
  clear hz
  go_enter Tryz.func87, Tryz.ntmps87
  go_wp2
  go_loopw [3, 5] (fun v3 v5 wr => ∃ k : Nat, v5 = .int .i64 k ∧ k ≤ n ∧ v3 = .complex .f64 (zre k) (zim k) ∧ wr = w) (fun _ i _ => n - (intOf i).toNat)
  case atStart => exact ⟨0, rfl, Nat.zero_le _, rfl, rfl⟩
  case round =>
    obtain ⟨k, rfl, hk, rfl, rfl⟩ := hrel
    by_cases hlt : k < n
    · have t0 := fun t w => run_complex_mul (P := Tryz.prog) w t _ _ _ _ _ _ (HZ.out k (by omega))
      go_wp2_with (simp only [t0])
      case roundEnd =>
        refine ⟨⟨k + 1, by push_cast; rfl, by omega, rfl, trivial⟩, ?_⟩
        simp only [intOf]
        omega
    · obtain rfl : k = n := by omega
      go_wp2
      go_ret
      exact ⟨rfl, rfl⟩

theorem spot_at {W : World} {g : Nat} {s : Sp} (h : IsSpot W g s) (c r : Nat) : IsSpot (W.setCell ⟨g, 1, none⟩ (.complex .f64 (F c) (F r))) g { s with c := c, r := r } := blk_set (w := W) h 1 _
theorem spot_st {W : World} {g : Nat} {s : Sp} (h : IsSpot W g s) (st : Nat) : IsSpot (W.setCell ⟨g, 2, none⟩ (.int .i64 st)) g { s with st := st } := blk_set (w := W) h 2 _

theorem sign_calls (g : Nat) (s : Sp) (w : World) (hg : SpGood s) (hr : s.r < 8200) (hS : IsSpot w g s) :
    Calls Tryz.prog 122 #[.pointer (some ⟨g, 0, none⟩)] w fun e w' => e = .returned (.tuple #[]) ∧ IsSpot w' g (signS s) ∧ Fr (only g) w w' := by
  have hb := hS
  unfold IsSpot at hb
  have HB := Aside0.mk hb
  have HS := Aside0.mk hS
  have c0 : w.cell? ⟨g, 0, none⟩ = some (.float .f64 (F s.w)) := (blk_cell hb 0).trans rfl
  have c1 : w.cell? ⟨g, 1, none⟩ = some (.complex .f64 (F s.c) (F s.r)) := (blk_cell hb 1).trans rfl
  have f1 : w.frozen? ⟨g, 1, none⟩ = false := blk_frozen hb 1
  have k1 := fun t w => run_complex_sum (P := Tryz.prog) w .add (Or.inl rfl) t .f64 (F s.c) (F s.r) 4607182418800017408 0 _ _ (csum_F .add _ _ _ _ _ _ (add_one s.c (by have := hg.1; have := hg.2.1; omega)) (add_zero s.r (by omega)))
  have k2 := fun t w => run_float_arith (P := Tryz.prog) w .add t .f64 (F s.r) 4607182418800017408 _ (add_one s.r (by omega))
  have ho : FloatKind.f64.format.order (F (s.c + 1)) (F s.w) = some (compare (s.c + 1) s.w) := order_F _ _ (by have := hg.1; have := hg.2.1; omega) (by have := hg.2.1; omega)
  have HG := Aside0.mk hg
  have HR := Aside0.mk hr
  clear hb hS hg hr
  by_cases he : s.c + 1 = s.w
  · have HE := Aside0.mk he
    rw [Nat.compare_eq_eq.2 he] at ho
    clear he
    go_enter Tryz.func122, Tryz.ntmps122
    go_wp2_with (simp only [k1, k2])
    go_quiet (fail)
    go_wp2_with (simp only [k1, k2])
    go_end0
    have hs : signS s = { s with c := 0, r := s.r + 1 } := by simp [signS, HE.out]
    rw [hs]
    have h1 := spot_at (blk_drewN (spot_at HS.out (s.c + 1) s.r) nq) 0 (s.r + 1)
    rw [F_zero] at h1
    exact ⟨rfl, h1, (((Fr.refl (only g) w).set (fun _ => only_self g) 1 _).drewN nq).set (fun _ => only_self g) 1 _⟩
  · have HE := Aside0.mk he
    have ho2 : (compare (s.c + 1) s.w == Ordering.eq) = false := by
      rw [beq_eq_false_iff_ne]; intro h; exact he (Nat.compare_eq_eq.1 h)
    clear he
    go_enter Tryz.func122, Tryz.ntmps122
    go_wp2_with (simp only [k1, k2])
    go_quiet (fail)
    go_wp2_with (simp only [k1, k2])
    go_end0
    have hs : signS s = { s with c := s.c + 1 } := by simp [signS, HE.out]
    rw [hs]
    exact ⟨rfl, blk_drewN (spot_at HS.out (s.c + 1) s.r) nq, ((Fr.refl (only g) w).set (fun _ => only_self g) 1 _).drewN nq⟩

/-- a move by the unit that is turned n times -/
def mvS (s : Sp) (n : Nat) : Sp := match n with
  | 0 => { s with c := min (s.c + 1) (s.w - 1) }
  | 1 => { s with r := s.r + 1 }
  | 2 => { s with c := s.c - 1 }
  | _ => { s with r := s.r - 1 }
theorem mvS_eq (s : Sp) (n : Nat) : mvS s n = { s with c := (mvS s n).c, r := (mvS s n).r } := by unfold mvS; split <;> rfl
theorem mv_bits (s : Sp) (n : Nat) (hn : n < 4) (hg : SpGood s) (hr : s.r < 8200) : ∃ re im mn, cSumBits .add .f64 (F s.c) (F s.r) (zre n) (zim n) = some (re, im) ∧ fmin re (F (s.w - 1)) = some mn ∧ fmax 0 mn = some (F (mvS s n).c) ∧ fmax 0 im = some (F (mvS s n).r) := by
  obtain ⟨h1, h2, h3⟩ := hg
  obtain rfl | rfl | rfl | rfl : n = 0 ∨ n = 1 ∨ n = 2 ∨ n = 3 := by omega
  · exact ⟨_, _, _, csum_F .add _ _ _ _ _ _ (add_one s.c (by omega)) (add_zero s.r (by omega)), fmin_F _ _ (by omega) (by omega), fmax_zero _ (by omega), fmax_zero _ (by omega)⟩
  · refine ⟨_, _, _, csum_F .add _ _ _ _ _ _ (add_zero s.c (by omega)) (add_one s.r (by omega)), fmin_F _ _ (by omega) (by omega), ?_, fmax_zero _ (by omega)⟩
    rw [fmax_zero _ (by omega), Nat.min_eq_left (by omega)]
    rfl
  · by_cases h0 : s.c = 0
    · have hc : (mvS s 2).c = 0 := by simp [mvS, h0]
      rw [hc, h0]
      exact ⟨_, _, _, csum_F .add _ _ _ _ _ _ add_minus_zero (add_zero s.r (by omega)), fmin_minus _ (by omega), fmax_minus, fmax_zero _ (by omega)⟩
    · have hc : s.c = (s.c - 1) + 1 := by omega
      have ha := add_minus (s.c - 1) (by omega)
      rw [← hc] at ha
      refine ⟨_, _, _, csum_F .add _ _ _ _ _ _ ha (add_zero s.r (by omega)), fmin_F _ _ (by omega) (by omega), ?_, fmax_zero _ (by omega)⟩
      rw [fmax_zero _ (by omega), Nat.min_eq_left (by omega)]
      rfl
  · by_cases h0 : s.r = 0
    · have hc : (mvS s 3).r = 0 := by simp [mvS, h0]
      rw [hc, h0]
      refine ⟨_, _, _, csum_F .add _ _ _ _ _ _ (add_negzero s.c (by omega)) add_minus_zero, fmin_F _ _ (by omega) (by omega), ?_, fmax_minus⟩
      rw [fmax_zero _ (by omega), Nat.min_eq_left (by omega)]
      rfl
    · have hc : s.r = (s.r - 1) + 1 := by omega
      have ha := add_minus (s.r - 1) (by omega)
      rw [← hc] at ha
      refine ⟨_, _, _, csum_F .add _ _ _ _ _ _ (add_negzero s.c (by omega)) ha, fmin_F _ _ (by omega) (by omega), ?_, fmax_zero _ (by omega)⟩
      rw [fmax_zero _ (by omega), Nat.min_eq_left (by omega)]
      rfl
theorem sub_w (s : Sp) (hg : SpGood s) : floatBits .sub .f64 (F s.w) 4607182418800017408 = some (F (s.w - 1)) := by
  obtain ⟨h1, h2, h3⟩ := hg
  have ha := sub_one (s.w - 1) (by omega)
  rwa [show s.w - 1 + 1 = s.w by omega] at ha

theorem move_calls (g n : Nat) (s : Sp) (w : World) (hn : n < 4) (hg : SpGood s) (hr : s.r < 8200) (hS : IsSpot w g s) :
    Calls Tryz.prog 86 #[.pointer (some ⟨g, 0, none⟩), .complex .f64 (zre n) (zim n)] w fun e w' => e = .returned (.tuple #[]) ∧ IsSpot w' g (mvS s n) ∧ Fr (only g) w w' := by
  have hb := hS
  unfold IsSpot at hb
  have HS := Aside0.mk hS
  have c0 : w.cell? ⟨g, 0, none⟩ = some (.float .f64 (F s.w)) := (blk_cell hb 0).trans rfl
  have c1 : w.cell? ⟨g, 1, none⟩ = some (.complex .f64 (F s.c) (F s.r)) := (blk_cell hb 1).trans rfl
  have f1 : w.frozen? ⟨g, 1, none⟩ = false := blk_frozen hb 1
  obtain ⟨re, im, mn, e1, e2, e3, e4⟩ := mv_bits s n hn hg hr
  have k1 := fun t w => run_complex_sum (P := Tryz.prog) w .add (Or.inl rfl) t .f64 _ _ _ _ _ _ e1
  have k2 := fun t w => run_float_arith (P := Tryz.prog) w .sub t .f64 _ _ _ (sub_w s hg)
  have k3 := fun ts t w => run_fmin (P := Tryz.prog) w ts t _ _ _ e2
  have k4 := fun ts t w => run_fmax (P := Tryz.prog) w ts t _ _ _ e3
  have k5 := fun ts t w => run_fmax (P := Tryz.prog) w ts t _ _ _ e4
  have hm := mvS_eq s n
  generalize (mvS s n).c = cc at *
  generalize (mvS s n).r = rr at *
  have HM := Aside0.mk hm
  clear hb hS hg hr e1 e2 e3 e4 hm
  go_enter Tryz.func86, Tryz.ntmps86
  go_wp2_with (simp only [k1, k2, k3, k4, k5])
  go_end0
  rw [HM.out]
  exact ⟨rfl, spot_at HS.out cc rr, (Fr.refl (only g) w).set (fun _ => only_self g) 1 _⟩

end Go.Proofs.YtfkamoiamebngaaGreatDoor.SpotW

/- What New, At, one and Put of spot do. -/
namespace Go.Proofs.YtfkamoiamebngaaGreatDoor.SpotW
open Go.RowKit Go.Proofs.YtfkamoiamebngaaGreatDoorW.PrintWords Go.Proofs.YtfkamoiamebngaaGreatDoorW.PrintMore Go.Proofs.YtfkamoiamebngaaGreatDoor.Fr Go.Proofs.YtfkamoiamebngaaGreatDoor.SpotP Go.Proofs.YtfkamoiamebngaaGreatDoor.Flt
set_option linter.unusedVariables false
set_option linter.unusedSimpArgs false
attribute [local go_sem] run_store_float run_store_complex

/-- the width that is kept -/
def wd (n : Int) : Nat := (max 1 (min n 500)).toNat
theorem new_calls (n : Int) (w : World) :
    Calls Tryz.prog 95 #[.int .i64 n] w fun e w' => e = .returned (.pointer (some ⟨w.heap.size, 0, none⟩)) ∧ IsSpot w' w.heap.size (sp0 (wd n)) ∧ Below w.heap.size w w' := by
  go_enter Tryz.func95, Tryz.ntmps95
  go_wp2
  · go_ret
    have : wd n = 500 := by unfold wd; omega
    exact ⟨rfl, by rw [this]; exact blk_new w _, below_alloc (Below.refl _ _) _⟩
  · go_ret
    have : floatOfInt .f64 n = F (wd n) := by unfold F wd; congr 1; omega
    exact ⟨rfl, by unfold IsSpot; show _ = some (Obj.cells #[.float .f64 (F (wd n)), _, _] _ _); rw [← this]; exact blk_new w _, below_alloc (Below.refl _ _) _⟩
  · go_ret
    have : wd n = 1 := by unfold wd; omega
    exact ⟨rfl, by rw [this]; exact blk_new w _, below_alloc (Below.refl _ _) _⟩

theorem one_calls (g : Nat) (c : Int) (s : Sp) (w : World) (hg : SpGood s) (hr : s.r < 8200) (hS : IsSpot w g s) :
    Calls Tryz.prog 85 #[.pointer (some ⟨g, 0, none⟩), .int .u8 c] w fun e w' => e = .returned (.tuple #[]) ∧ IsSpot w' g (oneS s c) ∧ Fr (only g) w w' := by
  have HS := Aside0.mk hS
  have c0 : w.cell? ⟨g, 0, none⟩ = some (.float .f64 (F s.w)) := (blk_cell hS 0).trans rfl
  have c1 : w.cell? ⟨g, 1, none⟩ = some (.complex .f64 (F s.c) (F s.r)) := (blk_cell hS 1).trans rfl
  have c2 : w.cell? ⟨g, 2, none⟩ = some (.int .i64 s.st) := (blk_cell hS 2).trans rfl
  have f1 : w.frozen? ⟨g, 1, none⟩ = false := blk_frozen hS 1
  have f2 : w.frozen? ⟨g, 2, none⟩ = false := blk_frozen hS 2
  have HG := Aside0.mk hg
  have HR := Aside0.mk hr
  clear hS
  by_cases h27 : c = 27
  · subst h27
    clear hg hr
    go_enter Tryz.func85, Tryz.ntmps85
    go_wp2
    go_end0
    exact ⟨rfl, spot_st HS.out 1, (Fr.refl (only g) w).set (fun _ => only_self g) 2 _⟩
  have t27 : (c == 27) = false := beq_eq_false_iff_ne.2 h27
  by_cases h13 : c = 13
  · subst h13
    clear hg hr t27
    go_enter Tryz.func85, Tryz.ntmps85
    go_wp2
    go_end0
    have h1 := spot_at HS.out 0 s.r
    rw [F_zero] at h1
    exact ⟨rfl, h1, (Fr.refl (only g) w).set (fun _ => only_self g) 1 _⟩
  have t13 : (c == 13) = false := beq_eq_false_iff_ne.2 h13
  by_cases h10 : c = 10
  · subst h10
    have k1 := fun t w => run_complex_sum (P := Tryz.prog) w .add (Or.inl rfl) t .f64 (F s.c) (F s.r) 0 4607182418800017408 _ _ (csum_F .add _ _ _ _ _ _ (add_zero s.c (by have := hg.1; have := hg.2.1; omega)) (add_one s.r (by omega)))
    clear hg hr t27 t13
    go_enter Tryz.func85, Tryz.ntmps85
    go_wp2_with (simp only [k1])
    go_end0
    exact ⟨rfl, spot_at HS.out s.c (s.r + 1), (Fr.refl (only g) w).set (fun _ => only_self g) 1 _⟩
  have t10 : (c == 10) = false := beq_eq_false_iff_ne.2 h10
  by_cases h8 : c = 8
  · subst h8
    clear hg hr t27 t13 t10
    go_enter Tryz.func85, Tryz.ntmps85
    go_wp2_with (first | (go_at_call 87; refine (turns_calls 2 (by decide) _).mono ?_; rintro e w1 ⟨rfl, rfl⟩) | (go_at_call 86; refine (move_calls g 2 s _ (by decide) HG.out HR.out HS.out).mono ?_; rintro e w1 ⟨rfl, hs1, hf1⟩; have HS1 := Aside0.mk hs1; have HF1 := Aside0.mk hf1; clear hs1 hf1))
    go_end0
    exact ⟨rfl, HS1.out, HF1.out⟩
  have t8 : (c == 8) = false := beq_eq_false_iff_ne.2 h8
  by_cases h9 : c = 9
  · subst h9
    have k1 := fun w => run_convert_float_int (P := Tryz.prog) w 155 2 .f64 .i64 _ _ (by rw [Tryz.underlying155]; rfl) Tryz.underlying2 (to_int s.c (by have := hg.1; have := hg.2.1; omega))
    have k2 := fun t w => run_float_arith (P := Tryz.prog) w .sub t .f64 _ _ _ (sub_w s hg)
    have k3 := fun ts t w => run_fmin (P := Tryz.prog) w ts t _ _ _ (fmin_F (8 * (s.c / 8 + 1)) (s.w - 1) (by have := hg.1; have := hg.2.1; omega) (by have := hg.2.1; omega))
    clear hg hr t27 t13 t10 t8
    go_enter Tryz.func85, Tryz.ntmps85
    go_wp2_with (simp only [k1, k2, k3])
    have hfl : floatOfInt .f64 (wrap64 (8 * wrap64 (wrap64 ((s.c : Int) / 8) + 1))) = F (8 * (s.c / 8 + 1)) := by
      unfold F
      congr 1
      have := HG.out.1
      have := HG.out.2.1
      unfold wrap64
      omega
    simp only [hfl]
    clear hfl k1
    go_region
    go_wp2
    go_end0
    exact ⟨rfl, spot_at HS.out (min (8 * (s.c / 8 + 1)) (s.w - 1)) s.r, ((Fr.refl (only g) w).set (fun _ => only_self g) 1 _).drew⟩
  have t9 : (c == 9) = false := beq_eq_false_iff_ne.2 h9
  by_cases h32 : 32 ≤ c
  · by_cases h127 : c = 127
    · subst h127
      clear hg hr t27 t13 t10 t8 t9 h32
      go_enter Tryz.func85, Tryz.ntmps85
      go_wp2
      go_end0
      exact ⟨rfl, HS.out, Fr.refl _ _⟩
    · have t127 : (c == 127) = false := beq_eq_false_iff_ne.2 h127
      have t32 : decide (32 ≤ c) = true := decide_eq_true h32
      have HO := Aside0.mk (show oneS s c = signS s by simp [oneS, h27, h13, h10, h8, h9, h32, h127])
      clear hg hr h27 h13 h10 h8 h9 h32 h127
      go_enter Tryz.func85, Tryz.ntmps85
      go_wp2_with (first | (go_at_call 122; refine (sign_calls g s _ HG.out HR.out HS.out).mono ?_; rintro e w1 ⟨rfl, hs1, hf1⟩; have HS1 := Aside0.mk hs1; have HF1 := Aside0.mk hf1; clear hs1 hf1))
      go_end0
      rw [HO.out]
      exact ⟨rfl, HS1.out, HF1.out⟩
  · have t32 : decide (32 ≤ c) = false := decide_eq_false h32
    have HO := Aside0.mk (show oneS s c = s by simp [oneS, h27, h13, h10, h8, h9, h32])
    clear hg hr h27 h13 h10 h8 h9 h32
    go_enter Tryz.func85, Tryz.ntmps85
    go_wp2
    go_end0
    rw [HO.out]
    exact ⟨rfl, HS.out, Fr.refl _ _⟩
end Go.Proofs.YtfkamoiamebngaaGreatDoor.SpotW
