/- outq: bytes that wait. -/
import Derived.Test.YtfkamoiamebngaaGreatDoorM03
import Derived.Deep.RegionHeld3
import Derived.Deep.QuietTactic
import Derived.Laws.CopyOwn
import Derived.Orders
import Derived.Maps.OwnSet
import Derived.Maps.RangeWalk
import Derived.Test.YtfkamoiamebngaaGreatDoorM01
import Derived.Test.YtfkamoiamebngaaGreatDoorM02
import Derived.Laws.BytesArg
namespace Go.Proofs.YtfkamoiamebngaaGreatDoor.BroW
open Go.RowKit Go.Proofs.YtfkamoiamebngaaGreatDoorW.PrintWords Go.Proofs.YtfkamoiamebngaaGreatDoorW.PrintMore Go.Proofs.YtfkamoiamebngaaGreatDoor.Fr Go.Proofs.YtfkamoiamebngaaGreatDoor.ScrW
set_option linter.unusedVariables false
set_option linter.unusedSimpArgs false

/-- a queue at block g: its bytes, and for how many it is -/
def IsQ (W : World) (base g : Nat) (bs : List Int) (size : Int) (v : Value) : Prop :=
  W.heap[g]? = some (.cells #[v, .int .i64 size] 151 (0, 0)) ∧ W.ownsRow base 5 1 v bs.length (nums .u8 bs) ∧ v.ownBlock ≠ some g

theorem qlen_calls (bs : List Int) (size : Int) (v : Value) (g base : Nat) (w : World) (h : IsQ w base g bs size v) (hl : bs.length ≤ 1000000) :
    Calls Tryz.prog 84 #[.pointer (some ⟨g, 0, none⟩)] w fun e w' => e = .returned (.int .i64 bs.length) ∧ w' = w := by
  obtain ⟨hb, ho, hne⟩ := h
  obtain ⟨A, c, rfl⟩ := own_slice ho
  have c0 : w.cell? ⟨g, 0, none⟩ = some (.slice A bs.length c) := (blk_cell hb 0).trans rfl
  have hg : g < w.heap.size := blk_lt hb
  clear hb ho hne
  go_enter Tryz.func84, Tryz.ntmps84
  go_wp2
  go_returns
  exact ⟨rfl, rfl⟩

theorem qroom_calls (bs : List Int) (size : Int) (v : Value) (g base : Nat) (w : World) (h : IsQ w base g bs size v) (hl : bs.length ≤ 1000000) (h0 : 0 ≤ size) (h1 : size ≤ 65536) :
    Calls Tryz.prog 121 #[.pointer (some ⟨g, 0, none⟩)] w fun e w' => e = .returned (.int .i64 (size - bs.length)) ∧ Fr nope w w' := by
  obtain ⟨hb, ho, hne⟩ := h
  obtain ⟨A, c, rfl⟩ := own_slice ho
  have c0 : w.cell? ⟨g, 0, none⟩ = some (.slice A bs.length c) := (blk_cell hb 0).trans rfl
  have c1 : w.cell? ⟨g, 1, none⟩ = some (.int .i64 size) := (blk_cell hb 1).trans rfl
  have hg : g < w.heap.size := blk_lt hb
  have hw : IntKind.i64.wrap (size - (bs.length : Int)) = size - (bs.length : Int) := by rw [IntKind.wrap_i64]; omega
  clear hb ho hne
  go_enter Tryz.func121, Tryz.ntmps121
  go_wp2
  go_quiet (fail)
  go_wp2
  go_returns
  exact ⟨rfl, (Fr.refl _ _).drewN _⟩

theorem IsQ.fr {w w1 : World} {base g : Nat} {bs : List Int} {size : Int} {v : Value} {S : Nat → Prop} (h : IsQ w base g bs size v) (hF : Fr S w w1) (hg : ¬ S g) (hv : ∀ b, v.ownBlock = some b → ¬ S b) : IsQ w1 base g bs size v :=
  ⟨hF.blk h.1 hg, hF.own h.2.1 hv, h.2.2⟩
/-- the blocks of a queue -/
def qS (g : Nat) (v : Value) : Nat → Prop := fun i => i = g ∨ v.ownBlock = some i

def QPut (bs xs : List Int) (size : Int) (v : Value) (g base : Nat) (w : World) (e : Ending) (w' : World) : Prop :=
  ∃ v', ∃ ok bs', e = .returned (.bool ok) ∧ Aside0 (ok = decide ((xs.length + bs.length : Int) ≤ size) ∧ bs' = if (xs.length + bs.length : Int) ≤ size then bs ++ xs else bs) ∧ IsQ w' base g bs' size v' ∧ AtRow w v' v ∧ Fr (qS g v) w w'
set_option maxHeartbeats 1000000 in
theorem qput_calls (bs xs : List Int) (size : Int) (v : Value) (g base : Nat) (A : Option Addr) (cp : Nat) (w : World) (h : IsQ w base g bs size v) (hb : base ≤ w.heap.size) (hl : bs.length ≤ 1000000) (hx : xs.length ≤ 1000000) (h0 : 0 ≤ size) (h1 : size ≤ 65536) (hr : ReadsInt w .u8 A xs.length xs) :
    Calls Tryz.prog 119 #[.pointer (some ⟨g, 0, none⟩), .slice A xs.length cp] w (QPut bs xs size v g base w) := by
  have HQ := Aside0.mk h
  have HR := Aside0.mk hr
  clear h hr
  obtain ⟨r, hr0⟩ : ∃ r, size - (bs.length : Int) = r := ⟨_, rfl⟩
  have HRM := Aside0.mk hr0
  by_cases hfit : (xs.length + bs.length : Int) ≤ size
  case neg =>
    have t1 : decide (r < (xs.length : Int)) = true := decide_eq_true (by omega)
    have HP : Aside0 (false = decide ((xs.length + bs.length : Int) ≤ size) ∧ bs = if (xs.length + bs.length : Int) ≤ size then bs ++ xs else bs) := ⟨(decide_eq_false hfit).symm, (if_neg hfit).symm⟩
    clear hfit hr0
    go_enter Tryz.func119, Tryz.ntmps119
    go_wp2_with (first | (go_at_call 121; refine (qroom_calls bs size v g base w HQ.out hl h0 h1).mono ?_; rintro e1 w1 ⟨rfl, hf1⟩; rw [HRM.out]; have HF1 := Aside0.mk hf1; clear hf1))
    go_returns
    exact ⟨v, _, _, rfl, HP, HQ.out.fr HF1.out (fun h => h) (fun _ _ h => h), .inl rfl, HF1.out.mono (fun i _ h => h.elim)⟩
  have t1 : decide (r < (xs.length : Int)) = false := decide_eq_false (by omega)
  have HP : Aside0 (true = decide ((xs.length + bs.length : Int) ≤ size) ∧ bs ++ xs = if (xs.length + bs.length : Int) ≤ size then bs ++ xs else bs) := ⟨(decide_eq_true hfit).symm, (if_pos hfit).symm⟩
  obtain ⟨Av, cv, rfl⟩ := own_slice HQ.out.2.1
  obtain ⟨ys, hys⟩ : ∃ l, l = bs ++ xs := ⟨_, rfl⟩
  have hyl : ys.length ≤ 2000000 := by rw [hys, List.length_append]; omega
  have HYS := Aside0.mk hys
  clear hfit hys hr0
  go_enter Tryz.func119, Tryz.ntmps119
  go_wp2_with (first | (go_at_call 121; refine (qroom_calls bs size _ g base w HQ.out hl h0 h1).mono ?_; rintro e1 w1 ⟨rfl, hf1⟩; rw [HRM.out]; have HF1 := Aside0.mk hf1; have HQ1 := Aside0.mk (HQ.out.fr hf1 (fun h => h) (fun _ _ h => h)); have c0 : w1.cell? ⟨g, 0, none⟩ = some (.slice Av bs.length cv) := (blk_cell HQ1.out.1 0).trans rfl; have hg1 : g < w1.heap.size := blk_lt HQ1.out.1; have hs1 : base ≤ w1.heap.size := Nat.le_trans hb hf1.size; clear hf1) | ((with_reducible refine gate_builtin (b := .append) (xs := #[.tmp 14, .tmp 15]) rfl ?_); at_builtin; refine app_nums rfl (.tmp 14) (.tmp 15) 29 5 .u8 1 rfl Tryz.underlying29 info5 (by decide) base (.slice Av bs.length cv) bs xs A xs.length cp rfl rfl HQ1.out.2.1 (HF1.out.reads HR.out (fun _ _ h => h)) hs1 (by omega) ?_; intro v2 w2 ho2 hf2 hat2; rw [← HYS.out] at ho2; obtain ⟨A2, c2, rfl⟩ := own_slice ho2; have HO2 := Aside0.mk ho2; have HF2 := Aside0.mk hf2; have HAT := Aside0.mk hat2; have hB2 := hf2.blk HQ1.out.1 (fun hs => HQ1.out.2.2 hs); have HB2 := Aside0.mk hB2; have c2' : w2.cell? ⟨g, 0, none⟩ = some (.slice Av bs.length cv) := (blk_cell hB2 0).trans rfl; have f2 := blk_frozen hB2 0; clear ho2 hf2 hat2 hB2 c0))
  go_returns
  have hne2 : some g ≠ (Value.slice A2 ys.length c2).ownBlock := by
    rcases HAT.out with h | ⟨b, h, h2⟩
    · rw [h]; exact fun e => HQ1.out.2.2 e.symm
    · rw [h]; intro e; cases e; omega
  refine ⟨_, _, _, rfl, ⟨HP.out.1, HYS.out.trans HP.out.2⟩, ⟨blk_set HB2.out 0 _, own_setCell HO2.out hne2 _, fun e => hne2 e.symm⟩, ?_, ?_⟩
  · rcases HAT.out with h | ⟨b, h, h2⟩
    · exact .inl h
    · exact .inr ⟨b, h, Nat.le_trans HF1.out.size h2⟩
  · exact ((HF1.out.mono (S1 := qS g (.slice Av bs.length cv)) (fun i _ h => h.elim)).trans HF2.out (fun i hi hs => .inr hs)).set (fun _ => .inl rfl) 0 _
end Go.Proofs.YtfkamoiamebngaaGreatDoor.BroW

/- outq: New and Take. -/
namespace Go.Proofs.YtfkamoiamebngaaGreatDoor.BroW
open Go.RowKit Go.Proofs.YtfkamoiamebngaaGreatDoorW.PrintWords Go.Proofs.YtfkamoiamebngaaGreatDoorW.PrintMore Go.Proofs.YtfkamoiamebngaaGreatDoor.Fr Go.Proofs.YtfkamoiamebngaaGreatDoor.ScrW
set_option linter.unusedVariables false
set_option linter.unusedSimpArgs false

theorem setRow_new (W : World) (cur new : Array Value) (e : TypeId) : (W.alloc (.cells cur e)).setRow W.heap.size new = W.alloc (.cells new e) := by
  have h : (W.heap.push (.cells cur e (0, 0))).modify W.heap.size (fun | .cells _ elem frozen => .cells new elem frozen | o => o) = W.heap.push (.cells new e (0, 0)) := by
    apply Array.ext
    · simp
    · intro i h1 h2
      rw [Array.getElem_modify]
      simp only [Array.getElem_push]
      by_cases hi : W.heap.size = i
      · subst hi
        simp
      · have : i < W.heap.size := by simp at h2; omega
        simp [hi, this]
  show World.setRow (W.alloc (.cells cur e)) W.heap.size new = _
  unfold World.setRow World.alloc
  exact congrArg (fun x => ({ heap := x, tape := W.tape, drawn := W.drawn, os := W.os, output := W.output } : World)) h

/-- copy into what was made just now, of what can be read -/
theorem copy_new {P : Program} {ops : Array Oper} {rest : List Oper} {o : Oper} {a : Act} {Q : Exit → Act → World → Prop} (hgd : o.guard = none) (d s : Operand) (dT sT : TypeId)
    (ho : o.op = .call { callee := .builtin .copy, args := #[d, s], argTypes := #[dT, sT] }) (elem : TypeId) (hu : P.underlying dT = some (.slice elem)) (hsz : (P.info? elem).map (·.size) = some 1)
    (W : World) (H : Nat) (hH : W.heap.size = H) (bs : List Int) (A : Option Addr) (n c k : Nat) (hd : a.eval d = .slice (some ⟨H, 0, none⟩) k k) (hs : a.eval s = .slice A n c) (hr : ReadsInt W .u8 A n bs) (hk : k ≤ n)
    (h : wpList P ops Q rest (a.put o.dst (.int .i64 (k : Int))) (W.alloc (.cells (nums .u8 (bs.take k)).toArray elem))) :
    wpList P ops Q (o :: rest) a (W.alloc (.cells (madeCells #[.int .u8 0] k) elem)) := by
  subst hH
  have hm : bs.length = n := hr.1
  by_cases h0 : k = 0
  · subst h0
    refine wpList_copy_nothing hgd d s dT sT ho elem hu hsz _ A 0 0 n c hd hs (by simp) ?_
    have e : (madeCells #[.int .u8 0] 0) = (nums .u8 (bs.take 0)).toArray := by simp [madeCells, nums]
    rw [e]
    exact h
  · obtain ⟨ad, rfl, hc⟩ := hr.2.2 (by omega)
    have hl : (nums .u8 (bs.take k)).length = k := by simp [nums]; omega
    refine wpList_copy_own hgd d s dT sT ho elem hu hsz W.heap.size 0 k k ad n c hd hs (madeCells #[.int .u8 0] k) elem (heap_alloc_new W _) (nums .u8 (bs.take k)) (by rw [hl]; exact (Nat.min_eq_right hk).symm) ?_ (by rw [hl, size_madeCells]; omega) ?_ ?_
    · intro j u hu2
      have hj : j < k := by
        rcases Nat.lt_or_ge j k with h | h
        · exact h
        · rw [List.getElem?_eq_none (by rw [hl]; exact h)] at hu2; cases hu2
      have hcj := hc j (by omega)
      have hlt := World.block_lt_of_cell? W _ hcj
      rw [World.cell?_of_block (Below.heap_alloc W _ _ hlt), hcj]
      simp only [nums, List.getElem?_map, List.getElem?_take, if_pos hj] at hu2
      rw [List.getElem?_eq_getElem (by omega)] at hu2
      simp at hu2
      rw [← hu2]
      simp [List.getD_eq_getElem?_getD, List.getElem?_eq_getElem (show j < bs.length by omega)]
    · intro u hu2
      simp only [nums, List.mem_map] at hu2
      obtain ⟨q, _, rfl⟩ := hu2
      rfl
    · rw [hl, setRow_new]
      have e : ((madeCells #[Value.int .u8 0] k).toList.take 0 ++ (nums .u8 (bs.take k) ++ (madeCells #[Value.int .u8 0] k).toList.drop (0 + k))) = nums .u8 (bs.take k) := by
        have hz : (madeCells #[Value.int .u8 0] k).toList.drop (0 + k) = [] := List.drop_eq_nil_of_le (by simp [size_madeCells])
        rw [hz]; simp
      rw [e]
      exact h

theorem qnew_calls (size : Int) (base : Nat) (w : World) (h0 : 0 < size) (h1 : size ≤ 65536) :
    Calls Tryz.prog 56 #[.int .i64 size] w fun e w' => e = .returned (.pointer (some ⟨w.heap.size, 0, none⟩)) ∧ IsQ w' base w.heap.size [] size (.slice none 0 0) ∧ Fr nope w w' := by
  go_enter Tryz.func56, Tryz.ntmps56
  go_wp2
  go_returns
  exact ⟨rfl, ⟨blk_new w _, World.ownsRow_nil _ _ _ _, by simp [Value.ownBlock]⟩, (Fr.refl _ _).alloc _⟩
end Go.Proofs.YtfkamoiamebngaaGreatDoor.BroW

/- outq: Take. -/
namespace Go.Proofs.YtfkamoiamebngaaGreatDoor.BroW
open Go.RowKit Go.Proofs.YtfkamoiamebngaaGreatDoorW.PrintWords Go.Proofs.YtfkamoiamebngaaGreatDoorW.PrintMore Go.Proofs.YtfkamoiamebngaaGreatDoor.Fr Go.Proofs.YtfkamoiamebngaaGreatDoor.ScrW
set_option linter.unusedVariables false
set_option linter.unusedSimpArgs false

/-- what Take leaves: the bytes taken in a row of their own, the others in another -/
def QTake (bs : List Int) (k : Nat) (size : Int) (g base : Nat) (w : World) (e : Ending) (w' : World) : Prop :=
  ∃ out v', e = .returned out ∧ w'.ownsRow w.heap.size 5 1 out (bs.take k).length (nums .u8 (bs.take k)) ∧ IsQ w' base g (bs.drop k) size v' ∧ (∀ b, v'.ownBlock = some b → w.heap.size ≤ b ∧ out.ownBlock ≠ some b) ∧ Fr (only g) w w'

theorem own_lit_nums (W : World) (base : Nat) (e : TypeId) (xs : List Int) (k : Nat) (hk : xs.length = k) (hb : base ≤ W.heap.size) (hm : k ≤ 9223372036854775807) :
    (W.alloc (.cells (nums .u8 xs).toArray e)).ownsRow base e 1 (.slice (some ⟨W.heap.size, 0, none⟩) k k) xs.length (nums .u8 xs) := by
  subst hk
  exact own_lit_of (enc := Value.int .u8) W base e xs hb hm

theorem qtake_fin {bs rs : List Int} {size : Int} {k g base : Nat} {w w2 : World} {v : Value} {A2 : Option Addr} {c2 : Nat} (hk : k ≤ bs.length) (hl : bs.length ≤ 1000000) (hrs : rs = bs.drop k) (hb : base ≤ w.heap.size) (hg : w.heap[g]? = some (.cells #[v, .int .i64 size] 151 (0, 0)))
    (ho : w2.ownsRow (w.heap.size + 1) 5 1 (.slice A2 rs.length c2) rs.length (nums .u8 rs)) (hf : Fr (rowOf (.slice none 0 0)) (w.alloc (.cells (nums .u8 (bs.take k)).toArray 5)) w2) :
    QTake bs k size g base w (.returned (.slice (some ⟨w.heap.size, 0, none⟩) k k)) (w2.setCell ⟨g, 0, none⟩ (.slice A2 rs.length c2)) := by
  have hgw : g < w.heap.size := blk_lt hg
  have hnb : ∀ b, (Value.slice A2 rs.length c2).ownBlock = some b → w.heap.size + 1 ≤ b := fun b hb => (own_old ho hb).1
  have hB2 := hf.blk (blk_alloc hg _) (fun hs => by cases hs)
  have hlen : (bs.take k).length = k := by rw [List.length_take]; omega
  have hout := hf.own (own_lit_nums w w.heap.size 5 (bs.take k) k hlen (Nat.le_refl _) (by omega)) (fun b _ hs => by cases hs)
  refine ⟨_, _, rfl, own_setCell hout (by simp [Value.ownBlock]; omega) _, ⟨blk_set hB2 0 _, ?_, ?_⟩, ?_, ?_⟩
  · rw [← hrs]
    exact own_setCell (own_base_le ho (by omega)) (fun e => by have := hnb g e.symm; omega) _
  · intro e
    have := hnb g e
    omega
  · intro b hb2
    have := hnb b hb2
    exact ⟨by omega, by simp [Value.ownBlock]; omega⟩
  · exact (((Fr.refl (only g) w).alloc _).trans hf (fun i _ hs => by cases hs)).set (fun _ => rfl) 0 _

set_option maxRecDepth 100000 in
set_option maxHeartbeats 1000000 in
theorem qtake_at (bs : List Int) (size n : Int) (k : Nat) (v : Value) (g base : Nat) (w : World) (h : IsQ w base g bs size v) (hb : base ≤ w.heap.size) (hl : bs.length ≤ 1000000) (hk : k ≤ bs.length) (hn : (n = (k : Int)) ∨ (k = bs.length ∧ (bs.length : Int) < n)) :
    Calls Tryz.prog 63 #[.pointer (some ⟨g, 0, none⟩), .int .i64 n] w (QTake bs k size g base w) := by
  have HQ := Aside0.mk h
  obtain ⟨Av, cv, rfl⟩ := own_slice h.2.1
  have hr : ReadsInt w .u8 Av bs.length bs := own_reads' h.2.1
  have HR := Aside0.mk hr
  have c0 : w.cell? ⟨g, 0, none⟩ = some (.slice Av bs.length cv) := (blk_cell h.1 0).trans rfl
  have hg : g < w.heap.size := blk_lt h.1
  have hcv : bs.length ≤ cv := by
    rcases h.2.1.2 with ⟨e, h0⟩ | ⟨g1, cap, cur, e, _, _, hn, _⟩
    · omega
    · injection e with _ _ e3; omega
  have hmk := print_make_of (P := Tryz.prog) 29 5 (.int .u8 0) 1 Tryz.underlying29 info5 rfl (by decide) k (by omega)
  obtain ⟨i5, hi5, hz5⟩ := Option.map_eq_some_iff.1 info5
  simp only [Prod.mk.injEq] at hz5
  obtain ⟨AR, hdr, hrr, hll⟩ := print_drop_of (P := Tryz.prog) (Value.int .u8) (0 : Int) 29 5 .i64 Tryz.underlying29 hi5 hz5.2.1 Av cv bs (k : Int) (by omega) (by omega) hcv
  obtain ⟨rs, hrs⟩ : ∃ l, l = bs.drop (k : Int).toNat := ⟨_, rfl⟩
  rw [← hrs] at hdr hrr hll
  have HRS : Aside0 (rs = bs.drop k) := ⟨by rw [hrs, Int.toNat_natCast]⟩
  have HRR := Aside0.mk hrr
  have hrl : rs.length ≤ bs.length := by rw [HRS.out, List.length_drop]; omega
  have hkl : (bs.take k).length = k := by rw [List.length_take]; omega
  have HKL := Aside0.mk hkl
  clear h hr hrr hrs hi5 hz5 hkl
  have fin : ∀ n', n' = n → Calls Tryz.prog 63 #[.pointer (some ⟨g, 0, none⟩), .int .i64 n'] w (QTake bs k size g base w) := by
    intro n' hn'
    subst hn'
    have hsz : (Tryz.prog.info? 5).map (·.size) = some 1 := by kernel_rfl
    have hgb := (HQ.out.1)
    have HGB := Aside0.mk hgb
    have f0 := blk_frozen hgb 0
    clear hgb
    rcases hn with rfl | ⟨rfl, hn⟩
    · rcases Nat.eq_zero_or_pos k with rfl | hkp
      · simp only [Int.natCast_zero] at hmk hdr ⊢
        go_enter Tryz.func63, Tryz.ntmps63
        go_wp2_with (first | ((with_reducible refine gate_builtin (b := .copy) (xs := #[.tmp 16, .tmp 20]) rfl ?_); refine copy_new rfl (.tmp 16) (.tmp 20) 29 29 rfl 5 Tryz.underlying29 hsz w w.heap.size rfl bs Av bs.length cv _ rfl rfl HR.out hk ?_) | ((with_reducible refine gate_builtin (b := .append) (xs := #[.const (.slice none 0 0), .tmp 28]) rfl ?_); at_builtin; refine app_nums rfl (.const (.slice none 0 0)) (.tmp 28) 29 5 .u8 1 rfl Tryz.underlying29 info5 (by decide) (w.heap.size + 1) (.slice none 0 0) [] rs AR rs.length _ rfl rfl (World.ownsRow_nil _ _ _ _) (HRR.out _ (((Fr.refl nope w).alloc _).reads HR.out (fun _ _ h => h))) (by rw [World.size_alloc]; exact Nat.le_refl _) (by simp only [List.length_nil]; omega) ?_; intro v2 w2 ho2 hf2 hat2; rw [List.nil_append] at ho2; obtain ⟨A2, c2, rfl⟩ := own_slice ho2; have HO2 := Aside0.mk ho2; have HF2 := Aside0.mk hf2; have hB2 := hf2.blk (blk_alloc HGB.out _) (fun hs => by cases hs); have c2' : w2.cell? ⟨g, 0, none⟩ = some (.slice Av bs.length cv) := (blk_cell hB2 0).trans rfl; have f2 := blk_frozen hB2 0; clear ho2 hf2 hat2 hB2))
        go_returns
        exact qtake_fin hk hl HRS.out hb HGB.out HO2.out HF2.out
      · go_enter Tryz.func63, Tryz.ntmps63
        go_wp2_with (first | ((with_reducible refine gate_builtin (b := .copy) (xs := #[.tmp 16, .tmp 20]) rfl ?_); refine copy_new rfl (.tmp 16) (.tmp 20) 29 29 rfl 5 Tryz.underlying29 hsz w w.heap.size rfl bs Av bs.length cv _ rfl rfl HR.out hk ?_) | ((with_reducible refine gate_builtin (b := .append) (xs := #[.const (.slice none 0 0), .tmp 28]) rfl ?_); at_builtin; refine app_nums rfl (.const (.slice none 0 0)) (.tmp 28) 29 5 .u8 1 rfl Tryz.underlying29 info5 (by decide) (w.heap.size + 1) (.slice none 0 0) [] rs AR rs.length _ rfl rfl (World.ownsRow_nil _ _ _ _) (HRR.out _ (((Fr.refl nope w).alloc _).reads HR.out (fun _ _ h => h))) (by rw [World.size_alloc]; exact Nat.le_refl _) (by simp only [List.length_nil]; omega) ?_; intro v2 w2 ho2 hf2 hat2; rw [List.nil_append] at ho2; obtain ⟨A2, c2, rfl⟩ := own_slice ho2; have HO2 := Aside0.mk ho2; have HF2 := Aside0.mk hf2; have hB2 := hf2.blk (blk_alloc HGB.out _) (fun hs => by cases hs); have c2' : w2.cell? ⟨g, 0, none⟩ = some (.slice Av bs.length cv) := (blk_cell hB2 0).trans rfl; have f2 := blk_frozen hB2 0; clear ho2 hf2 hat2 hB2))
        go_returns
        exact qtake_fin hk hl HRS.out hb HGB.out HO2.out HF2.out
    · rcases Nat.eq_zero_or_pos bs.length with hz | hkp
      · obtain rfl : bs = [] := List.eq_nil_of_length_eq_zero hz
        simp only [List.length_nil, Int.natCast_zero] at hmk hdr hn c0 hcv hrl ⊢
        go_enter Tryz.func63, Tryz.ntmps63
        go_wp2_with (first | ((with_reducible refine gate_builtin (b := .copy) (xs := #[.tmp 16, .tmp 20]) rfl ?_); refine copy_new rfl (.tmp 16) (.tmp 20) 29 29 rfl 5 Tryz.underlying29 hsz w w.heap.size rfl [] Av 0 cv _ rfl rfl HR.out hk ?_) | ((with_reducible refine gate_builtin (b := .append) (xs := #[.const (.slice none 0 0), .tmp 28]) rfl ?_); at_builtin; refine app_nums rfl (.const (.slice none 0 0)) (.tmp 28) 29 5 .u8 1 rfl Tryz.underlying29 info5 (by decide) (w.heap.size + 1) (.slice none 0 0) [] rs AR rs.length _ rfl rfl (World.ownsRow_nil _ _ _ _) (HRR.out _ (((Fr.refl nope w).alloc _).reads HR.out (fun _ _ h => h))) (by rw [World.size_alloc]; exact Nat.le_refl _) (by simp only [List.length_nil]; omega) ?_; intro v2 w2 ho2 hf2 hat2; rw [List.nil_append] at ho2; obtain ⟨A2, c2, rfl⟩ := own_slice ho2; have HO2 := Aside0.mk ho2; have HF2 := Aside0.mk hf2; have hB2 := hf2.blk (blk_alloc HGB.out _) (fun hs => by cases hs); have c2' : w2.cell? ⟨g, 0, none⟩ = some (.slice Av 0 cv) := (blk_cell hB2 0).trans rfl; have f2 := blk_frozen hB2 0; clear ho2 hf2 hat2 hB2))
        go_returns
        exact qtake_fin hk hl HRS.out hb HGB.out HO2.out HF2.out
      · go_enter Tryz.func63, Tryz.ntmps63
        go_wp2_with (first | ((with_reducible refine gate_builtin (b := .copy) (xs := #[.tmp 16, .tmp 20]) rfl ?_); refine copy_new rfl (.tmp 16) (.tmp 20) 29 29 rfl 5 Tryz.underlying29 hsz w w.heap.size rfl bs Av bs.length cv _ rfl rfl HR.out hk ?_) | ((with_reducible refine gate_builtin (b := .append) (xs := #[.const (.slice none 0 0), .tmp 28]) rfl ?_); at_builtin; refine app_nums rfl (.const (.slice none 0 0)) (.tmp 28) 29 5 .u8 1 rfl Tryz.underlying29 info5 (by decide) (w.heap.size + 1) (.slice none 0 0) [] rs AR rs.length _ rfl rfl (World.ownsRow_nil _ _ _ _) (HRR.out _ (((Fr.refl nope w).alloc _).reads HR.out (fun _ _ h => h))) (by rw [World.size_alloc]; exact Nat.le_refl _) (by simp only [List.length_nil]; omega) ?_; intro v2 w2 ho2 hf2 hat2; rw [List.nil_append] at ho2; obtain ⟨A2, c2, rfl⟩ := own_slice ho2; have HO2 := Aside0.mk ho2; have HF2 := Aside0.mk hf2; have hB2 := hf2.blk (blk_alloc HGB.out _) (fun hs => by cases hs); have c2' : w2.cell? ⟨g, 0, none⟩ = some (.slice Av bs.length cv) := (blk_cell hB2 0).trans rfl; have f2 := blk_frozen hB2 0; clear ho2 hf2 hat2 hB2))
        go_returns
        exact qtake_fin hk hl HRS.out hb HGB.out HO2.out (by rw [List.take_length]; exact HF2.out)
  exact fin n rfl
end Go.Proofs.YtfkamoiamebngaaGreatDoor.BroW

/- sum: the sum of bytes. -/
namespace Go.Proofs.YtfkamoiamebngaaGreatDoor.BroW
open Go.RowKit Go.Proofs.YtfkamoiamebngaaGreatDoorW.PrintWords Go.Proofs.YtfkamoiamebngaaGreatDoorW.PrintMore Go.Proofs.YtfkamoiamebngaaGreatDoor.Fr Go.Proofs.YtfkamoiamebngaaGreatDoor.ScrW Go.Proofs.YtfkamoiamebngaaGreatDoor.ScrP
set_option linter.unusedVariables false
set_option linter.unusedSimpArgs false

def sumBit (s : Int) : Int := if bits .and .u16 s 32768 = 0 then IntKind.u16.wrap (s * 2) else bits .xor .u16 (IntKind.u16.wrap (s * 2)) 4129
def sumBits : Nat → Int → Int
  | 0, s => s
  | k + 1, s => sumBit (sumBits k s)
def sumByte (s c : Int) : Int := sumBits 8 (bits .xor .u16 s (c * 256))
def sumMore (s : Int) (bs : List Int) : Int := bs.foldl sumByte s
theorem wrap_u16 (n : Int) : 0 ≤ IntKind.u16.wrap n ∧ IntKind.u16.wrap n ≤ 65535 := by
  have e : IntKind.u16.wrap n = n % 65536 := by simp [IntKind.wrap, IntKind.bits, IntKind.signed]
  rw [e]; omega
theorem xor_u16 (a b : Int) : 0 ≤ bits .xor .u16 a b ∧ bits .xor .u16 a b ≤ 65535 := by
  show 0 ≤ IntKind.u16.wrap _ ∧ IntKind.u16.wrap _ ≤ 65535
  exact wrap_u16 _
theorem sumBit_b (s : Int) (h : 0 ≤ s ∧ s ≤ 65535) : 0 ≤ sumBit s ∧ sumBit s ≤ 65535 := by
  unfold sumBit
  split
  · exact wrap_u16 _
  · exact xor_u16 _ _
theorem sumBits_b (k : Nat) (s : Int) (h : 0 ≤ s ∧ s ≤ 65535) : 0 ≤ sumBits k s ∧ sumBits k s ≤ 65535 := by
  induction k with
  | zero => exact h
  | succ k ih => exact sumBit_b _ ih
theorem sumMore_take (s : Int) (bs : List Int) (k : Nat) (h : k < bs.length) (c : Int) (hc : bs.getD k 0 = c) : sumMore s (bs.take (k + 1)) = sumByte (sumMore s (bs.take k)) c := by
  rw [List.take_succ_eq_append_getElem h]
  have e : bs[k] = c := by rw [← hc]; simp [h]
  rw [e]
  unfold sumMore
  rw [List.foldl_append]
  rfl
theorem sumMore_b (s : Int) (bs : List Int) (h : 0 ≤ s ∧ s ≤ 65535) : 0 ≤ sumMore s bs ∧ sumMore s bs ≤ 65535 := by
  induction bs generalizing s with
  | nil => exact h
  | cons c t ih => exact ih _ (sumBits_b 8 _ (xor_u16 _ _))

set_option maxRecDepth 100000 in
set_option maxHeartbeats 1000000 in
theorem more_calls (s : Int) (bs : List Int) (A : Option Addr) (cp : Nat) (w : World) (hs : 0 ≤ s ∧ s ≤ 65535) (hr : ReadsInt w .u8 A bs.length bs) (hb : isB bs) :
    Calls Tryz.prog 77 #[.int .u16 s, .slice A bs.length cp] w fun e w' => e = .returned (.int .u16 (sumMore s bs)) ∧ w' = w := by
  have hbl := hr.2.1
  have HR := Aside0.mk hr
  have HB := Aside0.mk hb
  clear hr hb
  go_enter Tryz.func77, Tryz.ntmps77
  go_wp2
  go_loopw [0, 9] (fun v0 v9 wr => ∃ k : Nat, v9 = .int .i64 k ∧ k ≤ bs.length ∧ v0 = .int .u16 (sumMore s (bs.take k)) ∧ wr = w) (fun _ i _ => bs.length - (intOf i).toNat)
  case atStart => exact ⟨0, rfl, Nat.zero_le _, rfl, rfl⟩
  case round =>
    obtain ⟨k, rfl, hk, rfl, rfl⟩ := hrel
    by_cases hlt : k < bs.length
    · obtain ⟨ad, rfl, hcells⟩ := HR.out.2.2 (by omega)
      obtain ⟨c, hc⟩ : ∃ c, bs.getD k 0 = c := ⟨_, rfl⟩
      have hcell := hcells k hlt
      rw [hc] at hcell
      have hcb : 0 ≤ c ∧ c ≤ 255 := by
        rw [← hc]
        have e : bs.getD k 0 = bs[k] := by simp [hlt]
        rw [e]; exact HB.out _ (List.getElem_mem hlt)
      have HM := Aside0.mk (sumMore_take s bs k hlt c hc)
      have hxb := sumMore_b s (bs.take k) hs
      obtain ⟨x, hx⟩ : ∃ x, sumMore s (bs.take k) = x := ⟨_, rfl⟩
      rw [hx] at HM hxb ⊢
      clear hcells hc hx
      go_wp2
      obtain ⟨y, hy⟩ : ∃ y, bits .xor .u16 x (c * 256) = y := ⟨_, rfl⟩
      have hyb : 0 ≤ y ∧ y ≤ 65535 := by rw [← hy]; exact xor_u16 _ _
      have HY := Aside0.mk hy
      rw [hy]
      clear hy
      go_loopw [0, 18] (fun v0 v18 wq => ∃ j : Nat, v18 = .int .i64 j ∧ j ≤ 8 ∧ v0 = .int .u16 (sumBits j y) ∧ wq = wr) (fun _ i _ => 8 - (intOf i).toNat)
      case atStart => exact ⟨0, rfl, Nat.zero_le _, rfl, rfl⟩
      case round =>
        obtain ⟨j, rfl, hj, rfl, rfl⟩ := hrel
        by_cases hjl : j < 8
        · have hzb := sumBits_b j y hyb
          have HJ : Aside0 (sumBits (j + 1) y = sumBit (sumBits j y)) := ⟨rfl⟩
          obtain ⟨z, hz⟩ : ∃ z, sumBits j y = z := ⟨_, rfl⟩
          rw [hz] at hzb HJ ⊢
          clear hz
          by_cases hbit : bits .and .u16 z 32768 = 0
          · have HB1 : Aside0 (sumBit z = IntKind.u16.wrap (z * 2)) := ⟨by unfold sumBit; rw [if_pos hbit]⟩
            have hb1 : (bits .and .u16 z 32768 == 0) = true := beq_iff_eq.2 hbit
            clear hbit
            go_wp2
            case roundEnd =>
              refine ⟨⟨j + 1, by push_cast; rfl, hjl, by rw [HJ.out, HB1.out], trivial⟩, ?_⟩
              simp only [intOf]
              omega
          · have HB1 : Aside0 (sumBit z = bits .xor .u16 (IntKind.u16.wrap (z * 2)) 4129) := ⟨by unfold sumBit; rw [if_neg hbit]⟩
            have hb1 : (bits .and .u16 z 32768 == 0) = false := beq_eq_false_iff_ne.2 hbit
            clear hbit
            go_wp2
            case roundEnd =>
              refine ⟨⟨j + 1, by push_cast; rfl, hjl, by rw [HJ.out, HB1.out], trivial⟩, ?_⟩
              simp only [intOf]
              omega
        · have hj8 : j = 8 := by omega
          have HE : Aside0 (sumBits j y = sumByte x c) := ⟨by rw [hj8, ← HY.out]; rfl⟩
          rw [HE.out]
          clear hj8
          go_wp2
          case roundEnd =>
            refine ⟨⟨k + 1, by push_cast; rfl, hlt, by rw [HM.out], trivial⟩, ?_⟩
            simp only [intOf]
            omega
    · have hkl : k = bs.length := by omega
      have HE := Aside0.mk (show sumMore s (bs.take k) = sumMore s bs by rw [hkl, List.take_length])
      rw [HE.out]
      clear hkl
      go_wp2
      go_returns
      exact ⟨rfl, rfl⟩

/-- the sum of bytes -/
def sumOf (bs : List Int) : Int := sumMore 65535 bs
theorem sumOf_b (bs : List Int) : 0 ≤ sumOf bs ∧ sumOf bs ≤ 65535 := sumMore_b _ bs (by decide)
theorem sumOf_calls (bs : List Int) (A : Option Addr) (cp : Nat) (w : World) (hr : ReadsInt w .u8 A bs.length bs) (hb : isB bs) :
    Calls Tryz.prog 52 #[.slice A bs.length cp] w fun e w' => e = .returned (.int .u16 (sumOf bs)) ∧ w' = w := by
  have HR := Aside0.mk hr
  have HB := Aside0.mk hb
  clear hr hb
  go_enter Tryz.func52, Tryz.ntmps52
  go_wp2_with (first | (go_at_call 77; refine (more_calls 65535 bs A cp w (by decide) HR.out HB.out).mono ?_; rintro e1 w1 ⟨rfl, rfl⟩))
  go_returns
  exact ⟨rfl, rfl⟩
end Go.Proofs.YtfkamoiamebngaaGreatDoor.BroW

/- msg: what a message is: its plain form, shape, Right. -/
namespace Go.Proofs.YtfkamoiamebngaaGreatDoor.BroW
open Go.RowKit Go.Proofs.YtfkamoiamebngaaGreatDoorW.PrintWords Go.Proofs.YtfkamoiamebngaaGreatDoorW.PrintMore Go.Proofs.YtfkamoiamebngaaGreatDoor.Fr Go.Proofs.YtfkamoiamebngaaGreatDoor.ScrW Go.Proofs.YtfkamoiamebngaaGreatDoor.ScrP
set_option linter.unusedVariables false
set_option linter.unusedSimpArgs false

/-- a message: its kind, its numbers, its text -/
structure Mg where
  k : Int
  a : Int
  b : Int
  t : ByteArray
def mg0 : Mg := ⟨0, 0, 0, ⟨#[]⟩⟩
def mgV (m : Mg) : Value := .agg #[.int .i64 m.k, .int .i64 m.a, .int .i64 m.b, .string m.t]
def mgCells (m : Mg) : Array Value := #[.int .i64 m.k, .int .i64 m.a, .int .i64 m.b, .string m.t]
def shN (k : Int) : Int := if k = 9 ∨ k = 13 ∨ k = 15 ∨ k = 2 ∨ k = 6 then 1 else if k = 7 ∨ k = 8 ∨ k = 1 ∨ k = 5 then 2 else 0
def shT (k : Int) : Int := if k = 10 ∨ k = 11 then 80 else if k = 2 ∨ k = 6 then 2042 else if k = 1 ∨ k = 5 then 20 else 0
def shO (k : Int) : Bool := decide (1 ≤ k ∧ k ≤ 15)
def mgB (m : Mg) : Bool :=
  shO m.k && (decide ((m.t.size : Int) ≤ shT m.k) && (decide (0 ≤ m.a) && (decide (0 ≤ m.b) && (decide (m.a ≤ 1099511627776) && (decide (m.b ≤ 1099511627776) && ((decide (0 < shN m.k) || m.a == 0) && (decide (1 < shN m.k) || m.b == 0)))))))
theorem shN_b (k : Int) : 0 ≤ shN k ∧ shN k ≤ 2 := by
  unfold shN; repeat' split
  all_goals omega
theorem shT_b (k : Int) : 0 ≤ shT k ∧ shT k ≤ 2042 := by
  unfold shT; repeat' split
  all_goals omega

set_option maxRecDepth 100000 in
theorem shape_calls (k : Int) (w : World) :
    Calls Tryz.prog 30 #[.int .i64 k] w fun e w' => e = .returned (.tuple #[.int .i64 (shN k), .int .i64 (shT k), .bool (shO k)]) ∧ w' = w := by
  obtain ⟨n, hn⟩ : ∃ n, shN k = n := ⟨_, rfl⟩
  obtain ⟨t, ht⟩ : ∃ n, shT k = n := ⟨_, rfl⟩
  obtain ⟨o, ho⟩ : ∃ n, shO k = n := ⟨_, rfl⟩
  have H := Aside0.mk (And.intro hn (And.intro ht ho))
  rw [hn, ht, ho]
  clear hn ht ho
  go_enter Tryz.func30, Tryz.ntmps30
  go_wp2
  all_goals go_returns
  all_goals (obtain ⟨h1, h2, h3⟩ := H.out; rw [← h1, ← h2, ← h3]; refine ⟨?_, rfl⟩; unfold shN shT shO)
  all_goals first
    | (rename_i hk; simp only [beq_iff_eq] at hk; subst hk; rfl)
    | (have hd : ¬ (1 ≤ k ∧ k ≤ 15) := (by simp only [beq_eq_false_iff_ne] at *; omega); rw [if_neg (by omega), if_neg (by omega), if_neg (by omega), if_neg (by omega), if_neg (by omega), decide_eq_false hd]; rfl)

set_option maxRecDepth 100000 in
set_option maxHeartbeats 1000000 in
theorem mright_calls (m : Mg) (w : World) (ht : m.t.size ≤ 140737488351232) :
    Calls Tryz.prog 31 #[mgV m] w fun e w' => e = .returned (.bool (mgB m)) ∧ Below w.heap.size w w' := by
  unfold mgV mgB
  have hn := shN_b m.k
  have hs := shT_b m.k
  obtain ⟨n, hn1⟩ : ∃ n, shN m.k = n := ⟨_, rfl⟩
  obtain ⟨t, ht1⟩ : ∃ n, shT m.k = n := ⟨_, rfl⟩
  obtain ⟨o, ho1⟩ : ∃ n, shO m.k = n := ⟨_, rfl⟩
  have H := Aside0.mk (And.intro hn1 (And.intro ht1 ho1))
  rw [hn1] at hn ⊢
  rw [ht1] at hs ⊢
  rw [ho1]
  clear hn1 ht1 ho1
  go_enter Tryz.func31, Tryz.ntmps31
  go_wp2_with (first | (go_at_call 30; refine (shape_calls m.k _).mono ?_; rintro e w1 ⟨rfl, rfl⟩; rw [H.out.1, H.out.2.1, H.out.2.2]))
  all_goals go_returns
  all_goals refine ⟨?_, below_alloc (Below.refl _ _) _⟩
  all_goals first | (simp_all; done) | (simp_all; intros; omega)
end Go.Proofs.YtfkamoiamebngaaGreatDoor.BroW

/- Laws of append at a step of a region that draws its order. -/
namespace Go.Proofs.YtfkamoiamebngaaGreatDoor.BroW
open Go.RowKit Go.Proofs.YtfkamoiamebngaaGreatDoorW.PrintWords Go.Proofs.YtfkamoiamebngaaGreatDoorW.PrintMore Go.Proofs.YtfkamoiamebngaaGreatDoor.Fr Go.Proofs.YtfkamoiamebngaaGreatDoor.ScrW Go.Proofs.YtfkamoiamebngaaGreatDoor.ScrP
set_option linter.unusedVariables false
set_option linter.unusedSimpArgs false

theorem frCell {S : Nat → Prop} {w w1 : World} (h : Fr S w w1) {a : Addr} {v : Value} (hc : w.cell? a = some v) (hn : ¬ S a.block) : w1.cell? a = some v := by
  rw [World.cell?_of_block (h.block _ (World.block_lt_of_cell? w a hc) hn)]; exact hc
theorem frThru {S : Nat → Prop} {w w1 w2 : World} (h : Fr S w w1) (k : Fr nope w1 w2) : Fr S w w2 := h.trans k (fun i _ h => h.elim)
theorem frAny {S : Nat → Prop} {w w1 : World} (h : Fr nope w w1) : Fr S w w1 := h.mono (fun i _ h => h.elim)
theorem step_of_list {P : Program} {ops : Array Oper} {o : Oper} {a : Act} {w : World} {K : Act → World → Prop} {Q : Exit → Act → World → Prop} {E : Prop} (hgd : o.guard = none)
    (h : ∀ (ops2 : Array Oper) (Q2 : Exit → Act → World → Prop), (∀ a w, K a w → Q2 .normal a w) → wpList P ops2 Q2 [o] a w) :
    if Region.wanted o (yielded ops a.tmps) = true then Oper.wp P o a w K Q else E := by
  have hw : Region.wanted o (yielded ops a.tmps) = true := by simp [Region.wanted, hgd]
  rw [if_pos hw]
  have h1 := h ops (fun e a w => e = .normal ∧ K a w) (fun _ _ h => ⟨rfl, h⟩)
  unfold wpList at h1
  rw [if_pos hw] at h1
  rcases h1 with h1 | ⟨_, a1, w1, h2, _⟩
  · revert h1
    unfold Oper.wp
    generalize (execOp a.eval o).run P w = r
    intro h1
    cases r with
    | ok n w' =>
      cases n <;> simp only [Oper.upon] at h1 ⊢
      case value u => exact h1.2
      case skip => exact h1.2
      case defer d => exact h1.2
      case enter f args =>
        refine Calls.mono h1 fun e w2 he => ?_
        cases e with
        | returned u => exact he.2
        | panicked c => cases he.1
        | outgrown => obtain ⟨a1, w1, h2, _⟩ := he; cases h2
      case row row args => exact Rows.mono h1 fun u w2 he => he.2
    | halt x w' =>
      cases x <;> simp only [Oper.upon] at h1 ⊢
      case panic u => cases h1.1
  · cases h2

section
variable {P : Program} {ops : Array Oper} {o : Oper} {a : Act} {W : World} {K : Act → World → Prop} {Q : Exit → Act → World → Prop} {E : Prop}
/-- append of what can be read, onto a row of numbers of the call's own -/
theorem step_app_nums (hgd : o.guard = none) (s x : Operand) (t e : TypeId) (k : IntKind) (bytes : Nat) (ho : o.op = .call { callee := .builtin .append, args := #[s, x], argTypes := #[t, t] })
    (ht : P.underlying t = some (.slice e)) (hinfo : (P.info? e).map (fun i => (i.zero, i.size, i.bytes)) = some (some (.int k 0), 1, bytes)) (hb0 : 0 < bytes) (b0 : Nat)
    (v : Value) (xs ys : List Int) (A : Option Addr) (m c : Nat) (hs : a.eval s = v) (hx : a.eval x = .slice A m c)
    (HO : W.ownsRow b0 e 1 v xs.length (nums k xs)) (HR : ReadsInt W k A m ys) (hb : b0 ≤ W.heap.size) (hl : (xs.length + m) * bytes ≤ 140737488355328)
    (h : ∀ v1 w1, w1.ownsRow b0 e 1 v1 (xs ++ ys).length (nums k (xs ++ ys)) → Fr (rowOf v) W w1 → (v1.ownBlock = v.ownBlock ∨ ∃ b, v1.ownBlock = some b ∧ W.heap.size ≤ b) → K (a.put o.dst v1) w1) :
    if Region.wanted o (yielded ops a.tmps) = true then Oper.wp P o a W K Q else E :=
  step_of_list hgd fun ops2 Q2 hQ => app_nums hgd s x t e k bytes ho ht hinfo hb0 b0 v xs ys A m c hs hx HO HR hb hl fun v1 w1 h1 h2 h3 => hQ _ _ (h v1 w1 h1 h2 h3)
/-- append of a string's bytes -/
theorem step_app_str (hgd : o.guard = none) (s x : Operand) (t u e : TypeId) (ho : o.op = .call { callee := .builtin .append, args := #[s, x], argTypes := #[t, u] })
    (ht : P.underlying t = some (.slice e)) (hu : P.underlying u = some .string) (hinfo : (P.info? e).map (fun i => (i.zero, i.size, i.bytes)) = some (some (.int .u8 0), 1, 1)) (b0 : Nat)
    (v : Value) (xs : List Int) (str : ByteArray) (hs : a.eval s = v) (hx : a.eval x = .string str)
    (HO : W.ownsRow b0 e 1 v xs.length (nums .u8 xs)) (hb : b0 ≤ W.heap.size) (hl : xs.length + str.size ≤ 1000000)
    (h : ∀ v1 w1, w1.ownsRow b0 e 1 v1 (xs ++ bytesOf str).length (nums .u8 (xs ++ bytesOf str)) → Fr (rowOf v) W w1 → K (a.put o.dst v1) w1) :
    if Region.wanted o (yielded ops a.tmps) = true then Oper.wp P o a W K Q else E :=
  step_of_list hgd fun ops2 Q2 hQ => print_append_str (w0 := W) b0 hgd s x t u e ho ht hu hinfo v xs str hs hx HO (Below.refl _ _) hb (by omega) fun v1 w1 h1 h2 h3 => hQ _ _ (h v1 w1 h1 ((Fr.refl (rowOf v) W).grown h3 (fun _ hb _ => hb)))
/-- append(nil, nil) -/
theorem step_app_nil (hgd : o.guard = none) (s x : Operand) (t e : TypeId) (ho : o.op = .call { callee := .builtin .append, args := #[s, x], argTypes := #[t, t] })
    (ht : P.underlying t = some (.slice e)) (hinfo : (P.info? e).map (fun i => (i.zero, i.size, i.bytes)) = some (some (.int .u8 0), 1, 1)) (hs : a.eval s = .slice none 0 0) (hx : a.eval x = .slice none 0 0)
    (h : K (a.put o.dst (.slice none 0 0)) W) :
    if Region.wanted o (yielded ops a.tmps) = true then Oper.wp P o a W K Q else E := by
  have hw : Region.wanted o (yielded ops a.tmps) = true := by simp [Region.wanted, hgd]
  rw [if_pos hw]
  obtain ⟨i0, hi, hzz⟩ := Option.map_eq_some_iff.1 hinfo
  simp only [Prod.mk.injEq] at hzz
  have hr1 : (Builtin.append_ #[t, t] o.type #[.slice none 0 0, .slice none 0 0]).run P W = .ok (.slice none 0 0) W := by
    simp [Builtin.append_, run_underlying ht, sizeOf, typeInfo, hi, Builtin.lenOf, Builtin.firstCells]
  unfold Oper.wp execOp
  simp only [ho, resolve, invoke, builtin, Sem.run_bind, Sem.run_pure, Result.andThen_ok, List.map_toArray, List.map_cons, List.map_nil, hs, hx, hr1]
  exact h
end
end Go.Proofs.YtfkamoiamebngaaGreatDoor.BroW

/- Maps from small numbers to numbers or pointers, as functions. -/
namespace Go.Proofs.YtfkamoiamebngaaGreatDoor.BroW
open Go.RowKit Go.Proofs.YtfkamoiamebngaaGreatDoorW.PrintWords Go.Proofs.YtfkamoiamebngaaGreatDoorW.PrintMore Go.Proofs.YtfkamoiamebngaaGreatDoor.Fr Go.Proofs.YtfkamoiamebngaaGreatDoor.ScrW
open Go.MapKept Go.WideShapes
open Go.WideElems (Fit rd rg pl rd_val elemAt)
set_option linter.unusedVariables false
set_option linter.unusedSimpArgs false

/-- how an element reads -/
def mpR : Value → Option (DataW Unit × List MemPlace)
  | .int .i64 r => some (.lit (.int .i64 r), [])
  | .pointer none => some (.lit (.int .u64 0), [])
  | .pointer (some ⟨g, 0, none⟩) => some (.lit (.int .u64 (g + 1)), [])
  | _ => none
theorem mpR_inj {v u : Value} {d : DataW Unit} {p q : List MemPlace} (h : mpR v = some (d, p)) (k : mpR u = some (d, q)) : v = u := by
  unfold mpR at h k
  split at h <;> split at k <;> simp_all
  all_goals (obtain ⟨h1, _⟩ := h; obtain ⟨h2, _⟩ := k; subst h1; simp_all)
  all_goals omega

/-- block b of W is a map of these elements -/
def MapAt (W : World) (b : Nat) (f : Int → Option Value) : Prop :=
  (∀ i, (f i).isSome = true → 1 ≤ i ∧ i ≤ 16) ∧ ∃ n D, W.ownsMap Tryz.prog 3 mpR b n D ∧
    ∀ i : Int, (Lit.int .i64 i).wf = true → Maps.has D (.int .i64 i) = (f i).isSome ∧ ∀ v, f i = some v → ∃ d, mpR v = some (d, []) ∧ ∀ z, D.atKey (.int .i64 i) z = d
theorem MapAt.fr {S : Nat → Prop} {W W1 : World} {b : Nat} {f : Int → Option Value} (h : MapAt W b f) (hF : Fr S W W1) (hn : ¬ S b) : MapAt W1 b f := by
  obtain ⟨h1, n, D, ho, h2⟩ := h
  refine ⟨h1, n, D, ?_, h2⟩
  obtain ⟨es, clock, hb, r⟩ := ho
  exact ⟨es, clock, hF.blk hb hn, r⟩
theorem MapAt.lt {W : World} {b : Nat} {f : Int → Option Value} (h : MapAt W b f) : b < W.heap.size := by
  obtain ⟨_, n, D, ho, _⟩ := h
  exact ho.lt
theorem mapAt_made (w : World) : MapAt (w.alloc (.map #[] 0)) w.heap.size (fun _ => none) :=
  ⟨fun i h => by simp at h, 0, _, World.ownsMap_made w _ _ _, fun i _ => ⟨rfl, fun v h => by cases h⟩⟩
theorem keyI (i : Int) (h : (Lit.int .i64 i).wf = true) : keyOf Tryz.prog 3 (.int .i64 i) = some (.int .i64 i) := Maps.keyOf_int_mk Tryz.underlying3 h
theorem isKeyI (i : Int) : WideAt.IsKeyLit (.int .i64 i) := by simp [WideAt.IsKeyLit]
def kfI (x : MapEntry) : Int := match x.key with
  | .int _ i => i
  | _ => 0
/-- how many entries there are at most -/
theorem nodup_len {l m : List Int} (h : l.Nodup) (hs : ∀ x ∈ l, x ∈ m) : l.length ≤ m.length := by
  induction l generalizing m with
  | nil => simp
  | cons a l ih =>
    rw [List.nodup_cons] at h
    have ha := hs a (by simp)
    have := ih (m := m.erase a) h.2 (fun x hx => (List.mem_erase_of_ne (fun e => h.1 (by rw [← e]; exact hx))).2 (hs x (by simp [hx])))
    rw [List.length_erase_of_mem ha] at this
    have : 0 < m.length := List.length_pos_of_mem ha
    simp; omega
theorem MapAt.few {W : World} {b : Nat} {f : Int → Option Value} (h : MapAt W b f) : ∃ D, W.ownsMap Tryz.prog 3 mpR b 16 D ∧
    ∀ i : Int, (Lit.int .i64 i).wf = true → Maps.has D (.int .i64 i) = (f i).isSome ∧ ∀ v, f i = some v → ∃ d, mpR v = some (d, []) ∧ ∀ z, D.atKey (.int .i64 i) z = d := by
  obtain ⟨h1, n, D, ho, h2⟩ := h
  refine ⟨D, ?_, h2⟩
  have K := Maps.int_keyed Tryz.underlying3
  obtain ⟨es, clock, hb, F, hs, hD⟩ := ho
  refine ⟨es, clock, hb, F, ?_, hD⟩
  have hkey : ∀ x ∈ es.toList, ∃ i, x.key = .int .i64 i ∧ (rg Tryz.prog 3 mpR x).1 = .int .i64 i ∧ (Lit.int .i64 i).wf = true := by
    intro x hx
    obtain ⟨y, hy⟩ := F.reads x hx
    have hk := Go.WideElems.rd_key hy
    obtain ⟨i, e1, e2, e3⟩ := Maps.keyOf_int_inv Tryz.underlying3 hk
    exact ⟨i, e1, by rw [Go.WideElems.rg_of hy, e2], e3⟩
  have hap := Maps.fit_apart K F
  have hmem : ∀ x ∈ es.toList, kfI x ∈ ([1, 2, 3, 4, 5, 6, 7, 8, 9, 10, 11, 12, 13, 14, 15, 16] : List Int) := by
    intro x hx
    obtain ⟨i, e1, e2, e3⟩ := hkey x hx
    have hhas : Maps.has D (.int .i64 i) = true := by
      rw [hD, Maps.has_eq, List.any_eq_true]
      refine ⟨rg Tryz.prog 3 mpR x, mem_sorted.2 (List.mem_map_of_mem hx), ?_⟩
      rw [e2]
      simp [Lit.sameKey]
    rw [(h2 i e3).1] at hhas
    have := h1 i hhas
    have e : kfI x = i := by unfold kfI; rw [e1]
    rw [e]
    simp
    omega
  have hnd : (es.toList.map kfI).Nodup := by
    rw [List.nodup_iff_pairwise_ne, List.pairwise_map]
    rw [List.pairwise_map] at hap
    refine List.Pairwise.imp_of_mem ?_ hap
    intro x y hx hy hne e
    obtain ⟨i, e1, e2, _⟩ := hkey x hx
    obtain ⟨j, f1, f2, _⟩ := hkey y hy
    apply hne
    rw [e2, f2]
    unfold kfI at e
    rw [e1, f1] at e
    simp only at e
    rw [e]
  have := nodup_len hnd (m := [1, 2, 3, 4, 5, 6, 7, 8, 9, 10, 11, 12, 13, 14, 15, 16]) (fun q hq => by
    obtain ⟨x, hx, rfl⟩ := List.mem_map.1 hq
    exact hmem x hx)
  simpa using this
theorem mpWf {i : Int} (h1 : 1 ≤ i) (h2 : i ≤ 16) : (Lit.int .i64 i).wf = true := by
  obtain ⟨n, rfl⟩ := Int.eq_ofNat_of_zero_le (by omega : 0 ≤ i)
  have : n ≤ 16 := by omega
  simp [Lit.wf, IntKind.min, IntKind.max, IntKind.bits, IntKind.signed]
  omega
/-- m[i] -/
theorem MapAt.look {W : World} {b : Nat} {f : Int → Option Value} (h : MapAt W b f) {t e : TypeId} (ht : Tryz.prog.underlying t = some (.map 3 e)) {z : Value} (hz : ∀ w, (zeroValue e).run Tryz.prog w = .ok z w) {zd : DataW Unit} (hzd : mpR z = some (zd, [])) {i : Int} (hi : (Lit.int .i64 i).wf = true) :
    (Instr.lookup t (.map (some b)) (.int .i64 i) false).run Tryz.prog W = .ok ((f i).getD z) W ∧ (Instr.lookup t (.map (some b)) (.int .i64 i) true).run Tryz.prog W = .ok (.tuple #[(f i).getD z, .bool (f i).isSome]) W := by
  obtain ⟨h1, n, D, ho, h2⟩ := h
  have K := Maps.int_keyed Tryz.underlying3
  obtain ⟨v, ps, hr, hv⟩ := ho.lookup K ht (hz W) hzd (keyI i hi)
  obtain ⟨v2, ps2, hr2, hv2⟩ := ho.look_ok K ht (hz W) hzd (keyI i hi)
  have he : ∀ u q, mpR u = some (D.atKey (.int .i64 i) zd, q) → u = (f i).getD z := by
    intro u q hu
    cases hf : f i with
    | none =>
      have hnh : Maps.has D (.int .i64 i) = false := by rw [(h2 i hi).1, hf]; rfl
      rw [Maps.atKey_of_not_has hnh] at hu
      exact mpR_inj hu hzd
    | some x =>
      obtain ⟨d, hd, hat⟩ := (h2 i hi).2 x hf
      rw [hat] at hu
      exact mpR_inj hu hd
  rw [he v ps hv] at hr
  rw [he v2 ps2 hv2, (h2 i hi).1] at hr2
  exact ⟨hr, hr2⟩
def upd (f : Int → Option Value) (i : Int) (v : Option Value) : Int → Option Value := fun j => if j = i then v else f j
/-- m[i] = v -/
theorem MapAt.store {W : World} {b : Nat} {f : Int → Option Value} (h : MapAt W b f) {t e : TypeId} (ht : Tryz.prog.underlying t = some (.map 3 e)) {i : Int} (h1 : 1 ≤ i) (h2 : i ≤ 16) {v : Value} {d : DataW Unit} (hv : mpR v = some (d, [])) :
    ∃ W1, (Instr.mapUpdate t (.map (some b)) (.int .i64 i) v).run Tryz.prog W = .ok () W1 ∧ MapAt W1 b (upd f i (some v)) ∧ Fr (only b) W W1 := by
  have hdom := h.1
  obtain ⟨D, ho, hq⟩ := h.few
  have K := Maps.int_keyed Tryz.underlying3
  obtain ⟨W1, hr, ho1, hg⟩ := ho.update K ht (by unfold maxLen; omega) (keyI i (mpWf h1 h2)) hv
  refine ⟨W1, hr, ⟨fun j hj => ?_, 17, _, ho1, fun j hj => ?_⟩, ⟨hg.os, hg.tape, hg.output, hg.size, fun k hk hn => hg.block k hk (fun e => hn (Option.some.inj e))⟩⟩
  · unfold upd at hj
    by_cases e : j = i
    · subst e; exact ⟨h1, h2⟩
    · rw [if_neg e] at hj; exact hdom j hj
  · unfold upd
    by_cases e : j = i
    · subst e
      rw [if_pos rfl]
      refine ⟨by rw [Maps.has_put_same ho.isMap (isKeyI j)]; rfl, fun u hu => ?_⟩
      cases hu
      exact ⟨d, hv, fun z => Maps.atKey_put_same ho.isMap (isKeyI j) d z⟩
    · rw [if_neg e]
      have hne : (Lit.int .i64 j) ≠ .int .i64 i := fun h => e (by injection h)
      refine ⟨by rw [Maps.has_put_other hne]; exact (hq j hj).1, fun u hu => ?_⟩
      obtain ⟨d1, hd1, hat⟩ := (hq j hj).2 u hu
      exact ⟨d1, hd1, fun z => by rw [Maps.atKey_put_other hne]; exact hat z⟩
/-- delete(m, i) -/
theorem MapAt.del {W : World} {b : Nat} {f : Int → Option Value} (h : MapAt W b f) {t e : TypeId} (ht : Tryz.prog.underlying t = some (.map 3 e)) {i : Int} (h1 : (Lit.int .i64 i).wf = true) (ty : TypeId) :
    ∃ W1, (Builtin.delete_ #[t, 3] ty #[.map (some b), .int .i64 i]).run Tryz.prog W = .ok (.tuple #[]) W1 ∧ MapAt W1 b (upd f i none) ∧ Fr (only b) W W1 := by
  obtain ⟨hdom, n, D, ho, hq⟩ := h
  have K := Maps.int_keyed Tryz.underlying3
  obtain ⟨W1, hr, ho1, hg'⟩ := ho.drop K ht (keyI i h1) ty
  have hg := hg'.grown
  refine ⟨W1, hr, ⟨fun j hj => ?_, n, _, ho1, fun j hj => ?_⟩, ⟨hg.os, hg.tape, hg.output, hg.size, fun k hk hn => hg.block k hk (fun e => hn (Option.some.inj e))⟩⟩
  · unfold upd at hj
    by_cases e : j = i
    · rw [if_pos e] at hj; cases hj
    · rw [if_neg e] at hj; exact hdom j hj
  · unfold upd
    by_cases e : j = i
    · subst e
      rw [if_pos rfl]
      exact ⟨Maps.has_del_same, fun u hu => by cases hu⟩
    · rw [if_neg e]
      have hne : (Lit.int .i64 j) ≠ .int .i64 i := fun h => e (by injection h)
      refine ⟨by rw [Maps.has_del_other hne]; exact (hq j hj).1, fun u hu => ?_⟩
      obtain ⟨d1, hd1, hat⟩ := (hq j hj).2 u hu
      exact ⟨d1, hd1, fun z => by rw [Maps.atKey_del_other hne]; exact hat z⟩
end Go.Proofs.YtfkamoiamebngaaGreatDoor.BroW

/- The lexer as a function on lists, and the statement's own partition of bytes: both come to the same keystrokes and commands. Plain. -/
namespace Go.Proofs.YtfkamoiamebngaaGreatDoor.LexP
open Go.RowKit Go.Proofs.YtfkamoiamebngaaGreatDoorW.PrintWords Go.Proofs.YtfkamoiamebngaaGreatDoorW.PrintMore

structure LexS where
  st : Int
  text : List Int
  long : Bool

def lexStep (s : LexS) (c : Int) : LexS × List Int × List ByteArray :=
  if s.st = 1 then (if c = 29 then (⟨0, s.text, s.long⟩, [c], []) else if c = 58 then (⟨2, [], false⟩, [], []) else (⟨0, s.text, s.long⟩, [], []))
  else if s.st = 2 then
    (if c = 10 then (⟨0, s.text, s.long⟩, [], [if s.long = true then ⟨#[]⟩ else strOfNums s.text])
     else (⟨2, if (s.long || s.text.length == 80) = true then s.text else s.text ++ [c], s.long || s.text.length == 80⟩, [], []))
  else if c = 29 then (⟨1, s.text, s.long⟩, [], []) else (s, [c], [])

def lexAll : LexS → List Int → LexS × List Int × List ByteArray
  | s, [] => (s, [], [])
  | s, c :: cs => ((lexAll (lexStep s c).1 cs).1, (lexStep s c).2.1 ++ (lexAll (lexStep s c).1 cs).2.1, (lexStep s c).2.2 ++ (lexAll (lexStep s c).1 cs).2.2)

theorem lexAll_append (l1 l2 : List Int) : ∀ s, lexAll s (l1 ++ l2) = ((lexAll (lexAll s l1).1 l2).1, (lexAll s l1).2.1 ++ (lexAll (lexAll s l1).1 l2).2.1, (lexAll s l1).2.2 ++ (lexAll (lexAll s l1).1 l2).2.2) := by
  induction l1 with
  | nil => intro s; simp [lexAll]
  | cons c cs ih => intro s; simp only [List.cons_append, lexAll, ih, List.append_assoc]

theorem lexAll_snoc (l : List Int) (c : Int) (s : LexS) : lexAll s (l ++ [c]) = ((lexStep (lexAll s l).1 c).1, (lexAll s l).2.1 ++ (lexStep (lexAll s l).1 c).2.1, (lexAll s l).2.2 ++ (lexStep (lexAll s l).1 c).2.2) := by
  rw [lexAll_append]
  simp [lexAll]

theorem lexStep_len (s : LexS) (c : Int) : (lexStep s c).2.1.length ≤ 1 ∧ (lexStep s c).2.2.length ≤ 1 := by
  unfold lexStep
  repeat' split
  all_goals simp

theorem lexAll_len (l : List Int) : ∀ s, (lexAll s l).2.1.length ≤ l.length ∧ (lexAll s l).2.2.length ≤ l.length := by
  induction l with
  | nil => intro s; simp [lexAll]
  | cons c cs ih =>
    intro s
    have h1 := lexStep_len s c
    have h2 := ih (lexStep s c).1
    simp only [lexAll, List.length_append, List.length_cons]
    omega

theorem lexStep_text (s : LexS) (c : Int) (h : s.text.length ≤ 80) : (lexStep s c).1.text.length ≤ 80 := by
  unfold lexStep
  repeat' split
  all_goals (try simp; try exact h)
  rename_i hx
  simp only [Bool.or_eq_true, beq_iff_eq, not_or] at hx
  omega

theorem lexAll_text (l : List Int) : ∀ s, s.text.length ≤ 80 → (lexAll s l).1.text.length ≤ 80 := by
  induction l with
  | nil => intro s h; simpa [lexAll] using h
  | cons c cs ih => intro s h; exact ih _ (lexStep_text s c h)

/-- keystrokes and commands of bytes, behind so many of each -/
def outs (K : List Int) (O : List ByteArray) (s : LexS) (l : List Int) : Option (List Int × List ByteArray) := some (K ++ (lexAll s l).2.1, O ++ (lexAll s l).2.2)

def lex0 : LexS := ⟨0, [], false⟩

end Go.Proofs.YtfkamoiamebngaaGreatDoor.LexP
