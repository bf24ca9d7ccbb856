/- msg: Of. -/
import Derived.Test.YtfkamoiamebngaaGreatDoorM09
import Derived.Test.YtfkamoiamebngaaGreatDoorM06
namespace Go.Proofs.YtfkamoiamebngaaGreatDoor.BroW
open Go.RowKit Go.Proofs.YtfkamoiamebngaaGreatDoorW.PrintWords Go.Proofs.YtfkamoiamebngaaGreatDoorW.PrintMore Go.Proofs.YtfkamoiamebngaaGreatDoor.Fr Go.Proofs.YtfkamoiamebngaaGreatDoor.ScrW Go.Proofs.YtfkamoiamebngaaGreatDoor.ScrP Go.Proofs.YtfkamoiamebngaaGreatDoor.Mod
set_option linter.unusedVariables false
set_option linter.unusedSimpArgs false

theorem or_low48 (x c : Int) (h0 : 0 ≤ x) (h1 : x ≤ 1099511627776) (h2 : 0 ≤ c) (h3 : c ≤ 255) : bits .or .i64 (x * 256) c = x * 256 + c := by
  obtain ⟨a, rfl⟩ := Int.eq_ofNat_of_zero_le h0
  obtain ⟨b, rfl⟩ := Int.eq_ofNat_of_zero_le h2
  have ha : a ≤ 1099511627776 := by omega
  have hb : b < 2 ^ 8 := by omega
  have e1 : (BitVec.ofInt 64 ((a : Int) * 256)).toNat = a * 256 := by rw [BitVec.toNat_ofInt]; omega
  have e2 : (BitVec.ofInt 64 (b : Int)).toNat = b := by rw [BitVec.toNat_ofInt]; omega
  show IntKind.i64.wrap ((BitVec.ofInt 64 ((a : Int) * 256) ||| BitVec.ofInt 64 (b : Int)).toNat : Nat) = _
  rw [BitVec.toNat_or, e1, e2]
  have h := Nat.shiftLeft_add_eq_or_of_lt hb a
  have e3 : a <<< 8 = a * 256 := Nat.shiftLeft_eq a 8
  rw [e3] at h
  rw [← h, IntKind.wrap_i64]
  omega
theorem rdN_le (bs : List Int) (hb : isB bs) : 0 ≤ rdN bs ∧ rdN bs < 256 ^ bs.length := by
  suffices h : ∀ (l : List Int) (x : Int) (n : Nat), isB l → 0 ≤ x → x < 256 ^ n → 0 ≤ l.foldl (fun n c => n * 256 + c) x ∧ l.foldl (fun n c => n * 256 + c) x < 256 ^ (n + l.length) by
    have := h bs 0 0 hb (by omega) (by simp)
    rw [Nat.zero_add] at this
    exact this
  intro l
  induction l with
  | nil => intro x n _ h1 h2; exact ⟨h1, h2⟩
  | cons c l ih =>
    intro x n hl h1 h2
    have hc := hl c (by simp)
    have := ih (x * 256 + c) (n + 1) (fun y hy => hl y (by simp [hy])) (by omega) (by rw [Int.pow_succ]; omega)
    rw [show n + 1 + l.length = n + (c :: l).length by simp; omega] at this
    exact this
theorem rdN6 (bs : List Int) (hb : isB bs) (k : Nat) (hk : k ≤ 5) : 0 ≤ rdN (bs.take k) ∧ rdN (bs.take k) ≤ 1099511627776 := by
  have h := rdN_le (bs.take k) (fun x hx => hb x (List.mem_of_mem_take hx))
  refine ⟨h.1, ?_⟩
  have hl : (bs.take k).length ≤ 5 := by rw [List.length_take]; omega
  have h2 : (256 : Int) ^ (bs.take k).length ≤ 1099511627776 := by
    generalize (bs.take k).length = q at hl
    obtain rfl | rfl | rfl | rfl | rfl | rfl : q = 0 ∨ q = 1 ∨ q = 2 ∨ q = 3 ∨ q = 4 ∨ q = 5 := by omega
    all_goals decide
  omega
theorem set4' {w1 : World} {g : Nat} {x0 x1 x2 x3 : Value} {T : TypeId} (hB : w1.heap[g]? = some (.cells #[x0, x1, x2, x3] T (0, 0))) (v0 v1 v2 v3 : Value) :
    ∃ W4, W4 = (((w1.setCell ⟨g, 0, none⟩ v0).setCell ⟨g, 1, none⟩ v1).setCell ⟨g, 2, none⟩ v2).setCell ⟨g, 3, none⟩ v3 ∧ W4.cell? ⟨g, 0, none⟩ = some v0 ∧ W4.cell? ⟨g, 1, none⟩ = some v1 ∧ W4.cell? ⟨g, 2, none⟩ = some v2 ∧ W4.cell? ⟨g, 3, none⟩ = some v3 := by
  have h := blk_set (blk_set (blk_set (blk_set hB 0 v0) 1 v1) 2 v2) 3 v3
  exact ⟨_, rfl, (blk_cell h 0).trans rfl, (blk_cell h 1).trans rfl, (blk_cell h 2).trans rfl, (blk_cell h 3).trans rfl⟩
def mc (k x0 : Int) (j : Nat) (y : Int) : Array Value := #[.int .i64 k, .int .i64 (if j = 0 then y else x0), .int .i64 (if j = 0 then 0 else y), .string ⟨#[]⟩]
theorem mc_at (k x0 : Int) (j : Nat) (y : Int) (h : j < 2) : (mc k x0 j y)[j + 1]? = some (.int .i64 y) := by
  obtain rfl | rfl : j = 0 ∨ j = 1 := by omega
  all_goals rfl
theorem mc_set (k x0 : Int) (j : Nat) (y y1 : Int) (h : j < 2) : (mc k x0 j y).setIfInBounds (j + 1) (.int .i64 y1) = mc k x0 j y1 := by
  obtain rfl | rfl : j = 0 ∨ j = 1 := by omega
  all_goals rfl
def MOf (f : Frm) (w : World) (e : Ending) (w' : World) : Prop := e = .returned (.tuple #[mgV (mOf f).1, .bool (mOf f).2]) ∧ Fr nope w w'

set_option maxRecDepth 100000 in
set_option maxHeartbeats 2000000 in
theorem mof_calls (k : Int) (bs : List Int) (A : Option Addr) (cp : Nat) (w : World) (hk : 0 ≤ k ∧ k ≤ 255) (hl : bs.length ≤ 2048) (hc : bs.length ≤ cp) (hcm : cp ≤ 9223372036854775807) (hr : ReadsInt w .u8 A bs.length bs) (hb : isB bs) :
    Calls Tryz.prog 16 #[.agg #[.int .u8 k, .slice A bs.length cp]] w (MOf (k, bs) w) := by
  have HR := Aside0.mk hr
  have HB := Aside0.mk hb
  have hn := shN_b k
  obtain ⟨n, hn1⟩ : ∃ n : Nat, shN k = (n : Int) := ⟨(shN k).toNat, by omega⟩
  obtain ⟨t, ht1⟩ : ∃ t, shT k = t := ⟨_, rfl⟩
  obtain ⟨o, ho1⟩ : ∃ o, shO k = o := ⟨_, rfl⟩
  have H := Aside0.mk (And.intro hn1 (And.intro ht1 ho1))
  have hn2 : n ≤ 2 := by omega
  have hwk : IntKind.i64.wrap k = k := by rw [IntKind.wrap_i64]; omega
  clear hn1 ht1 ho1 hn hr hb
  by_cases hbad : o = false ∨ (bs.length : Int) < 6 * n
  · have HE : Aside0 (mOf (k, bs) = (mg0, false)) := ⟨by unfold mOf; rw [if_pos (by rw [H.out.1, H.out.2.2]; exact hbad)]⟩
    rcases hbad with rfl | hbad
    · go_enter Tryz.func16, Tryz.ntmps16
      go_wp2_with (first | (go_at_call 30; refine (shape_calls k _).mono ?_; rintro e w1 ⟨rfl, hw1⟩; have hw1 := hw1.symm; subst hw1; rw [H.out.1, H.out.2.1, H.out.2.2]))
      all_goals go_returns
      all_goals exact ⟨by rw [HE.out]; rfl, ((((Fr.refl _ _).alloc _).alloc _).alloc _)⟩
    · have t1 : decide ((bs.length : Int) < 6 * n) = true := decide_eq_true hbad
      by_cases ho : o = true
      · subst ho
        go_enter Tryz.func16, Tryz.ntmps16
        go_wp2_with (first | (go_at_call 30; refine (shape_calls k _).mono ?_; rintro e w1 ⟨rfl, hw1⟩; have hw1 := hw1.symm; subst hw1; rw [H.out.1, H.out.2.1, H.out.2.2]))
        all_goals go_returns
        all_goals exact ⟨by rw [HE.out]; rfl, ((((Fr.refl _ _).alloc _).alloc _).alloc _)⟩
      · obtain rfl : o = false := by simpa using ho
        go_enter Tryz.func16, Tryz.ntmps16
        go_wp2_with (first | (go_at_call 30; refine (shape_calls k _).mono ?_; rintro e w1 ⟨rfl, hw1⟩; have hw1 := hw1.symm; subst hw1; rw [H.out.1, H.out.2.1, H.out.2.2]))
        all_goals go_returns
        all_goals exact ⟨by rw [HE.out]; rfl, ((((Fr.refl _ _).alloc _).alloc _).alloc _)⟩
  have ho : o = true := by
    cases o
    · exact absurd (.inl rfl) hbad
    · rfl
  subst ho
  have hn6 : 6 * n ≤ bs.length := by
    rcases Nat.lt_or_ge bs.length (6 * n) with h | h
    · exact absurd (.inr (by omega)) hbad
    · exact h
  have HNB := Aside0.mk (show ¬ (shO k = false ∨ (bs.length : Int) < 6 * shN k) by rw [H.out.1, H.out.2.2]; exact hbad)
  have t1 : decide ((bs.length : Int) < 6 * n) = false := decide_eq_false (by omega)
  clear hbad
  go_enter Tryz.func16, Tryz.ntmps16
  go_wp2_with (first | (go_at_call 30; refine (shape_calls k _).mono ?_; rintro e w1 ⟨rfl, hw1⟩; have hw1 := hw1.symm; subst hw1; rw [H.out.1, H.out.2.1, H.out.2.2]))
  obtain ⟨W0, hW0⟩ : ∃ W0, W0 = (((w.alloc (.cells #[.int .u8 k, .slice A bs.length cp] 50)).alloc (.cells #[.int .i64 0, .int .i64 0, .int .i64 0, .string ⟨#[]⟩] 39)).alloc (.cells #[.int .i64 k, .int .i64 0, .int .i64 0, .string ⟨#[]⟩] 39)).alloc (.cells #[.pointer (some ⟨w.heap.size + 1 + 1, 1, none⟩), .pointer (some ⟨w.heap.size + 1 + 1, 2, none⟩)] 78) := ⟨_, rfl⟩
  rw [← hW0]
  have hF0 : Fr nope w W0 := by rw [hW0]; exact ((((Fr.refl _ _).alloc _).alloc _).alloc _).alloc _
  have hB0 : W0.heap[w.heap.size]? = some (.cells #[.int .u8 k, .slice A bs.length cp] 50 (0, 0)) := by rw [hW0]; exact blk_alloc (blk_alloc (blk_alloc (blk_new w _) _) _) _
  have hB1 : W0.heap[w.heap.size + 1]? = some (.cells #[.int .i64 0, .int .i64 0, .int .i64 0, .string ⟨#[]⟩] 39 (0, 0)) := by rw [hW0]; exact blk_alloc (blk_alloc (blk_second w _ _) _) _
  have hB2 : W0.heap[w.heap.size + 1 + 1]? = some (.cells #[.int .i64 k, .int .i64 0, .int .i64 0, .string ⟨#[]⟩] 39 (0, 0)) := by rw [hW0, ← World.size_alloc w (.cells #[.int .u8 k, .slice A bs.length cp] 50)]; exact blk_alloc (blk_second _ _ _) _
  have hB3 : W0.heap[w.heap.size + 1 + 1 + 1]? = some (.cells #[.pointer (some ⟨w.heap.size + 1 + 1, 1, none⟩), .pointer (some ⟨w.heap.size + 1 + 1, 2, none⟩)] 78 (0, 0)) := by
    rw [hW0, ← World.size_alloc w (.cells #[.int .u8 k, .slice A bs.length cp] 50), ← World.size_alloc _ (.cells #[.int .i64 0, .int .i64 0, .int .i64 0, .string ⟨#[]⟩] 39)]; exact blk_second _ _ _
  have HF0 := Aside0.mk hF0
  have HB0 := Aside0.mk hB0
  have HB1 := Aside0.mk hB1
  have HB2 := Aside0.mk hB2
  have HB3 := Aside0.mk hB3
  have hs0 : w.heap.size + 1 + 1 + 1 < W0.heap.size := blk_lt hB3
  obtain ⟨M, hM⟩ : ∃ M, M = w.heap.size + 1 + 1 := ⟨_, rfl⟩
  rw [← hM] at HB2 HB3 ⊢
  have hMw : w.heap.size + 1 < M := by omega
  have hMs : M + 1 < W0.heap.size := by omega
  clear hF0 hB0 hB1 hB2 hB3 hW0 hM
  obtain ⟨i5, hi5, hz5⟩ := Option.map_eq_some_iff.1 info5
  simp only [Prod.mk.injEq] at hz5
  have HI5 := Aside0.mk (And.intro hi5 hz5.2.1)
  clear hi5 hz5
  obtain ⟨x0, hx0⟩ : ∃ x, x = rdN (bs.take 6) := ⟨_, rfl⟩
  obtain ⟨x1, hx1⟩ : ∃ x, x = rdN ((bs.take 12).drop 6) := ⟨_, rfl⟩
  have HX := Aside0.mk (And.intro hx0 hx1)
  clear hx0 hx1
  go_loopw [8, 9, 11, 40] (fun _ _ _ v40 wr => ∃ (j : Nat), v40 = .int .i64 j ∧ j ≤ n ∧ Aside0 (wr.heap[M]? = some (.cells #[.int .i64 k, .int .i64 (if 0 < j then x0 else 0), .int .i64 (if 1 < j then x1 else 0), .string ⟨#[]⟩] 39 (0, 0))) ∧ Aside0 (Fr (only M) W0 wr)) (fun _ _ _ i _ => n - (intOf i).toNat)
  case atStart => exact ⟨0, rfl, Nat.zero_le _, HB2, ⟨Fr.refl _ _⟩⟩
  case round =>
    obtain ⟨j, rfl, hj, HM, HF⟩ := hrel
    have hsr : W0.heap.size ≤ wr.heap.size := HF.out.size
    by_cases hlt : j < n
    · have hj2 : j < 2 := by omega
      obtain ⟨A1, hs1, hr1, hl1⟩ := print_mid_int (P := Tryz.prog) (k := .u8) 29 5 Tryz.underlying29 HI5.out.1 HI5.out.2 A cp bs (6 * (j : Int)) (6 * (j : Int) + 6) (by omega) (by omega) (by omega) hc
      obtain ⟨m1, hm1⟩ : ∃ l, l = (bs.take (6 * (j : Int) + 6).toNat).drop (6 * (j : Int)).toNat := ⟨_, rfl⟩
      rw [← hm1] at hs1 hr1 hl1
      have hm6 : m1.length = 6 := by rw [hm1]; simp; omega
      have HM6 := Aside0.mk hm6
      have hml : m1.length ≤ 6 := by omega
      have HBM : Aside0 (isB m1) := ⟨fun x hx => HB.out x (List.mem_of_mem_take (List.mem_of_mem_drop (by rw [← hm1]; exact hx)))⟩
      have HXJ : Aside0 (rdN m1 = if j = 0 then x0 else x1) := ⟨by
        rw [HX.out.1, HX.out.2, hm1]
        obtain rfl | rfl : j = 0 ∨ j = 1 := by omega
        all_goals rfl⟩
      have HRM := Aside0.mk (hr1 w HR.out)
      have hbp := blk_cell (HF.out.blk HB3.out (fun h => by unfold only at h; omega)) j
      have p1 : wr.cell? ⟨M + 1, j, none⟩ = some (.pointer (some ⟨M, j + 1, none⟩)) := by
        rw [hbp]
        obtain rfl | rfl : j = 0 ∨ j = 1 := by omega
        all_goals rfl
      have p2 : wr.cell? ⟨w.heap.size, 1, none⟩ = some (.slice A bs.length cp) := (blk_cell (HF.out.blk HB0.out (fun h => by unfold only at h; omega)) 1).trans rfl
      have HMS : Aside0 (wr.heap[M]? = some (.cells (mc k x0 j 0) 39 (0, 0))) := ⟨by
        rw [HM.out]
        obtain rfl | rfl : j = 0 ∨ j = 1 := by omega
        all_goals rfl⟩
      clear hm1 hm6 hbp hr1 HM
      go_wp2
      obtain ⟨wo, rfl⟩ : ∃ wo : World, wo = wr := ⟨_, rfl⟩
      go_loopw [11, 54] (fun _ v54 wq => ∃ (i : Nat), v54 = .int .i64 i ∧ i ≤ m1.length ∧ Aside0 (wq.heap[M]? = some (.cells (mc k x0 j (rdN (m1.take i))) 39 (0, 0))) ∧ Aside0 (Fr (only M) W0 wq)) (fun _ i _ => m1.length - (intOf i).toNat)
      case atStart => exact ⟨0, rfl, Nat.zero_le _, HMS, HF⟩
      case round =>
        clear HMS p1 p2
        obtain ⟨i, rfl, hi, HMI, HFI⟩ := hrel
        have hsq : W0.heap.size ≤ wr.heap.size := HFI.out.size
        by_cases hil : i < m1.length
        · obtain ⟨ad, hAd, hcs⟩ := ((HF0.out.trans HFI.out (fun i hi h => by unfold only at h; omega)).reads HRM.out (fun _ _ h => h)).2.2 (by omega)
          subst hAd
          obtain ⟨c, hcc⟩ : ∃ c, m1.getD i 0 = c := ⟨_, rfl⟩
          have hcell := hcs i hil
          rw [hcc] at hcell
          have hcb : 0 ≤ c ∧ c ≤ 255 := by rw [← hcc]; exact getD_b HBM.out i hil
          have hy := rdN6 m1 HBM.out i (by omega)
          have HT : Aside0 (rdN (m1.take (i + 1)) = rdN (m1.take i) * 256 + c) := ⟨by rw [rdN_take m1 i hil, hcc]⟩
          obtain ⟨y, hye⟩ : ∃ y, rdN (m1.take i) = y := ⟨_, rfl⟩
          rw [hye] at hy HT HMI
          have hor := or_low48 y c hy.1 hy.2 hcb.1 hcb.2
          have c1 : wr.cell? ⟨M, j + 1, none⟩ = some (.int .i64 y) := (blk_cell HMI.out (j + 1)).trans (mc_at k x0 j y hj2)
          have f1 := blk_frozen HMI.out (j + 1)
          have HMN : Aside0 ((wr.setCell ⟨M, j + 1, none⟩ (.int .i64 (y * 256 + c))).heap[M]? = some (.cells (mc k x0 j (rdN (m1.take (i + 1)))) 39 (0, 0))) := ⟨by
            rw [HT.out, ← mc_set k x0 j y _ hj2]
            exact blk_set HMI.out (j + 1) _⟩
          have hw1 : IntKind.i64.wrap c = c := by rw [IntKind.wrap_i64]; omega
          clear hcs hcc hye
          go_wp2
          case roundEnd =>
            refine ⟨⟨i + 1, by push_cast; rfl, hil, HMN, ⟨HFI.out.set (fun _ => rfl) (j + 1) _⟩⟩, ?_⟩
            simp only [intOf]
            omega
        · have hi6 : i = m1.length := by omega
          have HMN : Aside0 (wr.heap[M]? = some (.cells #[.int .i64 k, .int .i64 (if 0 < j + 1 then x0 else 0), .int .i64 (if 1 < j + 1 then x1 else 0), .string ⟨#[]⟩] 39 (0, 0))) := ⟨by
            rw [HMI.out, hi6, List.take_length, HXJ.out]
            obtain rfl | rfl : j = 0 ∨ j = 1 := by omega
            all_goals rfl⟩
          have t2 : decide (i < m1.length) = false := decide_eq_false hil
          clear hi6
          go_wp2
          case roundEnd =>
            refine ⟨⟨j + 1, by push_cast; rfl, hlt, HMN, HFI⟩, ?_⟩
            simp only [intOf]
            omega
    · have hjn : j = n := by omega
      have t3 : decide (j < n) = false := decide_eq_false hlt
      have hF0r : Fr nope w wr := HF0.out.trans HF.out (fun i hi h => by unfold only at h; omega)
      have HFr := Aside0.mk hF0r
      obtain ⟨A1, hs1, hr1, hl1⟩ := print_drop_of (P := Tryz.prog) (Value.int .u8) (0 : Int) 29 5 .i64 Tryz.underlying29 HI5.out.1 HI5.out.2 A cp bs (6 * (n : Int)) (by omega) (by omega) hc
      obtain ⟨m1, hm1⟩ : ∃ l, l = bs.drop (6 * (n : Int)).toNat := ⟨_, rfl⟩
      rw [← hm1] at hs1 hr1 hl1
      have hml : m1.length ≤ 2048 := by rw [hm1, List.length_drop]; omega
      have hcv : ∀ w1, ReadsInt w1 .u8 A1 m1.length m1 → (convert 29 9 (.slice A1 m1.length (cp - 6 * n))).run Tryz.prog w1 = .ok (.string (strOfNums m1)) w1 := fun w1 h => string_of_reads (P := Tryz.prog) (c := cp - 6 * n) Tryz.underlying29 Tryz.underlying5 Tryz.underlying9 h
      have hcv1 := hcv wr (hr1 wr (hF0r.reads HR.out (fun _ _ h => h)))
      obtain ⟨y0, hy0⟩ : ∃ y, y = (if 0 < j then x0 else 0) := ⟨_, rfl⟩
      obtain ⟨y1, hy1⟩ : ∃ y, y = (if 1 < j then x1 else 0) := ⟨_, rfl⟩
      rw [← hy0, ← hy1] at HM
      obtain ⟨st, hst⟩ : ∃ st, st = strOfNums m1 := ⟨_, rfl⟩
      rw [← hst] at hcv1
      have hsts : st.size ≤ 2048 := by rw [hst, strOfNums_size]; exact hml
      obtain ⟨mm, hmm⟩ : ∃ mm : Mg, mm = ⟨k, y0, y1, st⟩ := ⟨_, rfl⟩
      have HOF : Aside0 (mOf (k, bs) = if mgB mm = true then (mm, true) else (mg0, false)) := ⟨by
        unfold mOf
        rw [if_neg HNB.out]
        have e1 : (⟨k, if 0 < shN k then rdN (bs.take 6) else 0, if 1 < shN k then rdN ((bs.take 12).drop 6) else 0, strOfNums (bs.drop (6 * shN k).toNat)⟩ : Mg) = mm := by
          rw [hmm, hst, hm1, hy0, hy1, HX.out.1, HX.out.2, H.out.1, hjn]
          congr 1
          · by_cases h0 : 0 < n
            · rw [if_pos h0, if_pos (by omega)]
            · rw [if_neg h0, if_neg (by omega)]
          · by_cases h0 : 1 < n
            · rw [if_pos h0, if_pos (by omega)]
            · rw [if_neg h0, if_neg (by omega)]
        simp only [e1]⟩
      have q0 : wr.cell? ⟨w.heap.size, 1, none⟩ = some (.slice A bs.length cp) := (blk_cell (HF.out.blk HB0.out (fun h => by unfold only at h; omega)) 1).trans rfl
      have q3 : wr.cell? ⟨M, 3, none⟩ = some (.string ⟨#[]⟩) := (blk_cell HM.out 3).trans rfl
      have f3 := blk_frozen HM.out 3
      obtain ⟨w5, hw5⟩ : ∃ w5, w5 = wr.setCell ⟨M, 3, none⟩ (.string st) := ⟨_, rfl⟩
      have hM5 : w5.heap[M]? = some (.cells #[.int .i64 k, .int .i64 y0, .int .i64 y1, .string st] 39 (0, 0)) := by rw [hw5]; exact blk_set HM.out 3 _
      have HF5 : Aside0 (Fr nope w w5) := ⟨by rw [hw5]; exact hF0r.set (fun h => by omega) 3 _⟩
      have HB5 : Aside0 (w5.heap[w.heap.size + 1]? = some (.cells #[.int .i64 0, .int .i64 0, .int .i64 0, .string ⟨#[]⟩] 39 (0, 0))) := ⟨((HF.out.set (fun _ => rfl) 3 (.string st)).blk HB1.out (fun h => by unfold only at h; omega)) ▸ (by rw [hw5])⟩
      have HM5 := Aside0.mk hM5
      have c0 : wr.cell? ⟨M, 0, none⟩ = some (.int .i64 k) := (blk_cell HM.out 0).trans rfl
      have c1 : wr.cell? ⟨M, 1, none⟩ = some (.int .i64 y0) := (blk_cell HM.out 1).trans rfl
      have c2 : wr.cell? ⟨M, 2, none⟩ = some (.int .i64 y1) := (blk_cell HM.out 2).trans rfl
      have HW5 := Aside0.mk hw5
      have HMM := Aside0.mk hmm
      clear hlt hjn hF0r hr1 hm1 hcv hy0 hy1 hst hmm hM5 hw5
      obtain ⟨bb, hbb⟩ : ∃ b, mgB mm = b := ⟨_, rfl⟩
      have HBB := Aside0.mk hbb
      have HRT : Aside0 (∀ W, Calls Tryz.prog 31 #[.agg #[.int .i64 k, .int .i64 y0, .int .i64 y1, .string st]] W fun e w' => e = .returned (.bool bb) ∧ Below W.heap.size W w') := ⟨fun W => by
        have h := mright_calls mm W (by rw [HMM.out]; show st.size ≤ _; omega)
        rw [HBB.out] at h
        rw [HMM.out] at h
        exact h⟩
      clear hbb
      cases bb
      · go_wp2_with (first | (go_at_call 31; refine (HRT.out _).mono ?_; rintro e6 w6 ⟨rfl, hw6⟩; rw [← HW5.out] at hw6; have hB6 := blk_below HB5.out hw6; have g0 : w6.cell? ⟨w.heap.size + 1, 0, none⟩ = some (.int .i64 0) := (blk_cell hB6 0).trans rfl; have g1 : w6.cell? ⟨w.heap.size + 1, 1, none⟩ = some (.int .i64 0) := (blk_cell hB6 1).trans rfl; have g2 : w6.cell? ⟨w.heap.size + 1, 2, none⟩ = some (.int .i64 0) := (blk_cell hB6 2).trans rfl; have g3 : w6.cell? ⟨w.heap.size + 1, 3, none⟩ = some (.string ⟨#[]⟩) := (blk_cell hB6 3).trans rfl; have f0 := blk_frozen hB6 0; have f1 := blk_frozen hB6 1; have f2 := blk_frozen hB6 2; have f3' := blk_frozen hB6 3; have HB6 := Aside0.mk hB6; have HF6 := Aside0.mk (HF5.out.below hw6); clear hB6 hw6 c0 c1 c2 q3))
        obtain ⟨W4, hW4, r0, r1, r2, r3⟩ := set4' HB6.out (.int .i64 0) (.int .i64 0) (.int .i64 0) (.string ⟨#[]⟩)
        rw [← hW4]
        refine bodyPost_ret (by simp [results, Tryz.results16, go_sem, r0, r1, r2, r3]; try rfl) rfl ?_
        rw [hW4]
        unfold MOf
        rw [HOF.out, HBB.out]
        exact ⟨rfl, (((HF6.out.set (fun h => by omega) 0 _).set (fun h => by omega) 1 _).set (fun h => by omega) 2 _).set (fun h => by omega) 3 _⟩
      · go_wp2_with (first | (go_at_call 31; refine (HRT.out _).mono ?_; rintro e6 w6 ⟨rfl, hw6⟩; rw [← HW5.out] at hw6; have hB6 := blk_below HB5.out hw6; have g0 : w6.cell? ⟨w.heap.size + 1, 0, none⟩ = some (.int .i64 0) := (blk_cell hB6 0).trans rfl; have g1 : w6.cell? ⟨w.heap.size + 1, 1, none⟩ = some (.int .i64 0) := (blk_cell hB6 1).trans rfl; have g2 : w6.cell? ⟨w.heap.size + 1, 2, none⟩ = some (.int .i64 0) := (blk_cell hB6 2).trans rfl; have g3 : w6.cell? ⟨w.heap.size + 1, 3, none⟩ = some (.string ⟨#[]⟩) := (blk_cell hB6 3).trans rfl; have f0 := blk_frozen hB6 0; have f1 := blk_frozen hB6 1; have f2 := blk_frozen hB6 2; have f3' := blk_frozen hB6 3; have HB6 := Aside0.mk hB6; have hM6 := blk_below HM5.out hw6; have k0 : w6.cell? ⟨M, 0, none⟩ = some (.int .i64 k) := (blk_cell hM6 0).trans rfl; have k1 : w6.cell? ⟨M, 1, none⟩ = some (.int .i64 y0) := (blk_cell hM6 1).trans rfl; have k2 : w6.cell? ⟨M, 2, none⟩ = some (.int .i64 y1) := (blk_cell hM6 2).trans rfl; have k3 : w6.cell? ⟨M, 3, none⟩ = some (.string st) := (blk_cell hM6 3).trans rfl; have HF6 := Aside0.mk (HF5.out.below hw6); clear hB6 hw6 hM6 c0 c1 c2 q3))
        obtain ⟨W4, hW4, r0, r1, r2, r3⟩ := set4' HB6.out (.int .i64 k) (.int .i64 y0) (.int .i64 y1) (.string st)
        rw [← hW4]
        refine bodyPost_ret (by simp [results, Tryz.results16, go_sem, r0, r1, r2, r3]; try rfl) rfl ?_
        rw [hW4]
        unfold MOf
        rw [HOF.out, HBB.out, HMM.out]
        exact ⟨rfl, (((HF6.out.set (fun h => by omega) 0 _).set (fun h => by omega) 1 _).set (fun h => by omega) 2 _).set (fun h => by omega) 3 _⟩
end Go.Proofs.YtfkamoiamebngaaGreatDoor.BroW

/- view: start, New, At, Again, Next. -/
namespace Go.Proofs.YtfkamoiamebngaaGreatDoor.BroW
open Go.RowKit Go.Proofs.YtfkamoiamebngaaGreatDoorW.PrintWords Go.Proofs.YtfkamoiamebngaaGreatDoorW.PrintMore Go.Proofs.YtfkamoiamebngaaGreatDoor.Fr Go.Proofs.YtfkamoiamebngaaGreatDoor.ScrW Go.Proofs.YtfkamoiamebngaaGreatDoor.ScrP Go.Proofs.YtfkamoiamebngaaGreatDoor.Mod
set_option linter.unusedVariables false
set_option linter.unusedSimpArgs false

theorem rbaseM_nat (al : List Int) (n : Nat) : rbaseM al (n : Int) = rbase al n := by unfold rbaseM rbase; simp
theorem IsR.fr {S : Nat → Prop} {w w1 : World} {g gb n : Nat} {al : List Int} (h : IsR w g gb al n) (hF : Fr S w w1) (h1 : ¬ S g) (h2 : ¬ S gb) : IsR w1 g gb al n := by
  obtain ⟨buf, k1, k2, k3, k4⟩ := h
  exact ⟨buf, k1, hF.blk k2 h1, hF.blk k3 h2, k4⟩
theorem run_imin3 {P : Program} (x y z : Int) (m : Int) (h : min (min x y) z = m) (ts : Array TypeId) (t : TypeId) (w : World) : (Builtin.min_ ts t #[.int .i64 x, .int .i64 y, .int .i64 z]).run P w = .ok (.int .i64 m) w := by
  subst h
  show ((Builtin.min2 (.int .i64 x) (.int .i64 y) >>= fun a => Builtin.min2 a (.int .i64 z)) >>= fun a => pure a).run P w = _
  simp only [Builtin.min2]
  by_cases hc : y < x
  · have h1 : min x y = y := by omega
    by_cases hd : z < y
    · have : min (min x y) z = z := by omega
      simp [hc, hd, this]
    · have : min (min x y) z = y := by omega
      simp [hc, hd, this]
  · have h1 : min x y = x := by omega
    by_cases hd : z < x
    · have : min (min x y) z = z := by omega
      simp [hc, hd, this]
    · have : min (min x y) z = x := by omega
      simp [hc, hd, this]

theorem start_calls (al : List Int) (n g gb : Nat) (back : Int) (line : Bool) (w : World) (h : IsR w g gb al n) (hn : 0 < n) (hnm : n ≤ 65536) (hal : al.length ≤ 1000000) (hb : 0 ≤ back ∧ back ≤ 1099511627776) :
    Calls Tryz.prog 134 #[.pointer (some ⟨g, 0, none⟩), .int .i64 back, .bool line] w fun e w' => e = .returned (.int .i64 (startM al n back line)) ∧ Fr nope w w' := by
  have HI := Aside0.mk h
  obtain ⟨r, hr⟩ : ∃ r : Nat, rbase al n = r := ⟨_, rfl⟩
  have hrl : r ≤ 1000000 := by rw [← hr]; unfold rbase; omega
  have HR := Aside0.mk hr
  obtain ⟨q, hq⟩ : ∃ q : Nat, max r (al.length - back.toNat) = q := ⟨_, rfl⟩
  have kmx1 := run_imax (P := Tryz.prog) back 0 back (by omega)
  have kmx2 := run_imax (P := Tryz.prog) (r : Int) ((al.length : Int) - back) (q : Int) (by omega)
  have hql : q ≤ 1000000 := by omega
  have HE : Aside0 (startM al n back line = if line = true then lineM al n q else q) := ⟨by unfold startM; simp only []; rw [rbaseM_nat, hr, hq]⟩
  clear hr hq h
  cases line
  · go_enter Tryz.func134, Tryz.ntmps134
    go_wp2_with (first | (go_at_call 150; refine (rbase_calls al n g gb _ HI.out).mono ?_; rintro e1 w1 ⟨rfl, hw1⟩; have hw1 := hw1.symm; subst hw1; rw [HR.out]) | (go_at_call 156; refine (rend_calls al n g gb _ HI.out).mono ?_; rintro e1 w1 ⟨rfl, hw1⟩; have hw1 := hw1.symm; subst hw1))
    go_returns
    exact ⟨by rw [HE.out]; rfl, Fr.refl _ _⟩
  · go_enter Tryz.func134, Tryz.ntmps134
    go_wp2_with (first | (go_at_call 150; refine (rbase_calls al n g gb _ HI.out).mono ?_; rintro e1 w1 ⟨rfl, hw1⟩; have hw1 := hw1.symm; subst hw1; rw [HR.out]) | (go_at_call 156; refine (rend_calls al n g gb _ HI.out).mono ?_; rintro e1 w1 ⟨rfl, hw1⟩; have hw1 := hw1.symm; subst hw1) | (go_at_call 157; refine (rline_calls al n g gb q _ HI.out hn hnm hal hql).mono ?_; rintro e1 w1 ⟨rfl, hf1⟩; have HF1 := Aside0.mk hf1; clear hf1))
    go_returns
    exact ⟨by rw [HE.out]; rfl, HF1.out⟩

/-- a view at block g -/
def IsV (W : World) (g : Nat) (v : Vw) : Prop := W.heap[g]? = some (.cells #[.int .i64 v.at_, .int .i64 v.sk] 210 (0, 0))
theorem vnew_calls (al : List Int) (n g gb : Nat) (back : Int) (line : Bool) (w : World) (h : IsR w g gb al n) (hn : 0 < n) (hnm : n ≤ 65536) (hal : al.length ≤ 1000000) (hb : 0 ≤ back ∧ back ≤ 1099511627776) :
    Calls Tryz.prog 110 #[.pointer (some ⟨g, 0, none⟩), .int .i64 back, .bool line] w fun e w' => ∃ gv, e = .returned (.pointer (some ⟨gv, 0, none⟩)) ∧ IsV w' gv ⟨startM al n back line, 0⟩ ∧ w.heap.size ≤ gv ∧ Fr nope w w' := by
  have HC := Aside0.mk (start_calls al n g gb back line w h hn hnm hal hb)
  clear h
  go_enter Tryz.func110, Tryz.ntmps110
  go_wp2_with (first | (go_at_call 134; refine HC.out.mono ?_; rintro e1 w1 ⟨rfl, hf1⟩; have HF1 := Aside0.mk hf1; clear hf1))
  go_returns
  exact ⟨_, rfl, blk_new w1 _, HF1.out.size, HF1.out.alloc _⟩
theorem vat_calls (g : Nat) (v : Vw) (w : World) (h : IsV w g v) :
    Calls Tryz.prog 113 #[.pointer (some ⟨g, 0, none⟩)] w fun e w' => e = .returned (.int .i64 v.at_) ∧ w' = w := by
  have c0 : w.cell? ⟨g, 0, none⟩ = some (.int .i64 v.at_) := (blk_cell h 0).trans rfl
  clear h
  go_enter Tryz.func113, Tryz.ntmps113
  go_wp2
  go_returns
  exact ⟨rfl, rfl⟩
theorem vagain_calls (al : List Int) (n g gb gv : Nat) (v : Vw) (back : Int) (w : World) (hv : IsV w gv v) (h : IsR w g gb al n) (hn : 0 < n) (hnm : n ≤ 65536) (hal : al.length ≤ 1000000) (hb : 0 ≤ back ∧ back ≤ 1099511627776) :
    Calls Tryz.prog 148 #[.pointer (some ⟨gv, 0, none⟩), .pointer (some ⟨g, 0, none⟩), .int .i64 back] w fun e w' => e = .returned (.tuple #[]) ∧ IsV w' gv ⟨startM al n back false, v.sk⟩ ∧ Fr (only gv) w w' := by
  have HC := Aside0.mk (start_calls al n g gb back false w h hn hnm hal hb)
  have HV := Aside0.mk hv
  clear h hv
  go_enter Tryz.func148, Tryz.ntmps148
  go_wp2_with (first | (go_at_call 134; refine HC.out.mono ?_; rintro e1 w1 ⟨rfl, hf1⟩; have hB := hf1.blk HV.out (fun h => h); have c0 : w1.cell? ⟨gv, 0, none⟩ = some (.int .i64 v.at_) := (blk_cell hB 0).trans rfl; have f0 := blk_frozen hB 0; have HB := Aside0.mk hB; have HF1 := Aside0.mk hf1; clear hf1 hB))
  go_end0
  exact ⟨rfl, blk_set HB.out 0 _, (frAny (S := only gv) HF1.out).set (g := gv) (fun _ => only_self gv) 0 _⟩

def VNext (r : Vw × Mg × Bool) (gv : Nat) (w : World) (e : Ending) (w' : World) : Prop := e = .returned (.tuple #[mgV r.2.1, .bool r.2.2]) ∧ IsV w' gv r.1 ∧ Fr (only gv) w w'

set_option maxRecDepth 100000 in
set_option maxHeartbeats 2000000 in
theorem vnext_calls (al : List Int) (n g gb gv : Nat) (v : Vw) (room most strikes : Int) (w : World) (hv : IsV w gv v) (h : IsR w g gb al n) (hg : gv ≠ g) (hgb : gv ≠ gb) (hn : 0 < n) (hnm : n ≤ 65536) (hal : al.length ≤ 1000000) (hvl : v.at_ ≤ al.length) (hvs : 0 ≤ v.sk ∧ v.sk ≤ 1000) (hr : -100000 ≤ room ∧ room ≤ 100000) (hm : 1 ≤ most ∧ most ≤ 2042) (hst : 0 ≤ strikes ∧ strikes ≤ 9) :
    Calls Tryz.prog 120 #[.pointer (some ⟨gv, 0, none⟩), .pointer (some ⟨g, 0, none⟩), .int .i64 room, .int .i64 most, .int .i64 strikes] w (VNext (v.next al n room most strikes) gv w) := by
  have HV := Aside0.mk hv
  have HI := Aside0.mk h
  obtain ⟨vat, vsk⟩ := v
  simp only at hvl hvs HV
  obtain ⟨r, hrr⟩ : ∃ r : Nat, rbase al n = r := ⟨_, rfl⟩
  have hrl : r ≤ 1000000 := by rw [← hrr]; unfold rbase; omega
  have HR := Aside0.mk hrr
  have hgw : gv < w.heap.size := blk_lt hv
  have HNE := Aside0.mk (And.intro hg hgb)
  clear hrr hg hgb
  obtain ⟨W0, hW0⟩ : ∃ W0, W0 = (w.alloc (.cells #[.int .i64 0, .int .i64 0, .int .i64 0, .string ⟨#[]⟩] 39)).alloc (.cells #[.int .i64 0, .int .i64 0, .int .i64 0, .string ⟨#[]⟩] 39) := ⟨_, rfl⟩
  have hF0 : Fr nope w W0 := by rw [hW0]; exact ((Fr.refl _ _).alloc _).alloc _
  have hBR : W0.heap[w.heap.size]? = some (.cells #[.int .i64 0, .int .i64 0, .int .i64 0, .string ⟨#[]⟩] 39 (0, 0)) := by rw [hW0]; exact blk_alloc (blk_new w _) _
  have hBM : W0.heap[w.heap.size + 1]? = some (.cells #[.int .i64 0, .int .i64 0, .int .i64 0, .string ⟨#[]⟩] 39 (0, 0)) := by rw [hW0]; exact blk_second _ _ _
  have hBV := hF0.blk HV.out (fun h => h)
  have v0 : W0.cell? ⟨gv, 0, none⟩ = some (.int .i64 vat) := (blk_cell hBV 0).trans rfl
  have v1 : W0.cell? ⟨gv, 1, none⟩ = some (.int .i64 vsk) := (blk_cell hBV 1).trans rfl
  have fv0 := blk_frozen hBV 0
  have fv1 := blk_frozen hBV 1
  have HIR : Aside0 (IsR W0 g gb al n) := ⟨HI.out.fr hF0 (fun h => h) (fun h => h)⟩
  have HF0 := Aside0.mk hF0
  have HBR := Aside0.mk hBR
  have HBM := Aside0.mk hBM
  have HBV := Aside0.mk hBV
  have hs0 : w.heap.size + 1 < W0.heap.size := blk_lt hBM
  have HW0 := Aside0.mk hW0
  have HBASE : Aside0 (∀ W, Fr nope W0 W → Calls Tryz.prog 150 #[.pointer (some ⟨g, 0, none⟩)] W fun e w' => e = .returned (.int .i64 r) ∧ w' = W) := ⟨fun W hW => by
    have := rbase_calls al n g gb W (HIR.out.fr hW (fun h => h) (fun h => h))
    rw [HR.out] at this
    exact this⟩
  clear hv h hF0 hBR hBM hBV hW0
  by_cases hlt : vat < r
  · have t1 : decide (vat < r) = true := decide_eq_true hlt
    have HEV : Aside0 (∀ W : World, Fr nope w W → W.heap[w.heap.size]? = some (.cells #[.int .i64 0, .int .i64 0, .int .i64 0, .string ⟨#[]⟩] 39 (0, 0)) → True) := ⟨fun _ _ _ => trivial⟩
    clear HEV
    go_enter Tryz.func120, Tryz.ntmps120
    go_wp2
    rw [← HW0.out]
    go_quiet ((go_at_call 150; exact Calls.quiet_of_same (HBASE.out _ ((Fr.refl _ _).drewN _))))
    obtain ⟨W1, hW1⟩ : ∃ W1, W1 = World.drewN W0 nq := ⟨_, rfl⟩
    rw [← hW1]
    have hF1 : Fr nope W0 W1 := by rw [hW1]; exact (Fr.refl _ _).drewN _
    have HF1 := Aside0.mk hF1
    have HIR1 : Aside0 (IsR W1 g gb al n) := ⟨HIR.out.fr hF1 (fun h => h) (fun h => h)⟩
    have HBR1 := Aside0.mk (hF1.blk HBR.out (fun h => h))
    have HBM1 := Aside0.mk (hF1.blk HBM.out (fun h => h))
    have HBV1 := Aside0.mk (hF1.blk HBV.out (fun h => h))
    have hs1 : w.heap.size + 1 < W1.heap.size := blk_lt HBM1.out
    clear hW1 hF1 v0 v1 fv0 fv1 HBM HBR HBV HIR
    have v0 : W1.cell? ⟨gv, 0, none⟩ = some (.int .i64 vat) := (blk_cell HBV1.out 0).trans rfl
    have m0 : W1.cell? ⟨w.heap.size + 1, 0, none⟩ = some (.int .i64 0) := (blk_cell HBM1.out 0).trans rfl
    have m1 : W1.cell? ⟨w.heap.size + 1, 1, none⟩ = some (.int .i64 0) := (blk_cell HBM1.out 1).trans rfl
    have m2 : W1.cell? ⟨w.heap.size + 1, 2, none⟩ = some (.int .i64 0) := (blk_cell HBM1.out 2).trans rfl
    have m3 : W1.cell? ⟨w.heap.size + 1, 3, none⟩ = some (.string ⟨#[]⟩) := (blk_cell HBM1.out 3).trans rfl
    have mf0 := blk_frozen HBM1.out 0
    have mf1 := blk_frozen HBM1.out 1
    have mf2 := blk_frozen HBM1.out 2
    have mf3 := blk_frozen HBM1.out 3
    have hgm : gv ≠ w.heap.size + 1 := by omega
    have HK : Aside0 (∀ w', Fr (only (w.heap.size + 1)) W1 w' → w'.cell? ⟨gv, 0, none⟩ = some (.int .i64 vat) ∧ Fr (only (w.heap.size + 1)) W1 w') :=
      ⟨fun w' hF => ⟨frCell hF v0 (fun h => hgm h), hF⟩⟩
    go_wp2
    go_region_held3 (fun w' => w'.cell? ⟨gv, 0, none⟩ = some (.int .i64 vat) ∧ Fr (only (w.heap.size + 1)) W1 w')
      (first | exact HK.out _ (Fr.refl _ W1).drew | exact HK.out _ (((((Fr.refl (only (w.heap.size + 1)) W1).set (g := w.heap.size + 1) (fun _ => only_self _) 0 _).set (g := w.heap.size + 1) (fun _ => only_self _) 1 _).set (g := w.heap.size + 1) (fun _ => only_self _) 2 _).set (g := w.heap.size + 1) (fun _ => only_self _) 3 _).drew | fail)
      (first | (go_at_call 150; refine (HBASE.out _ ((frAny HF1.out).drew)).mono ?_; rintro e9 w9 ⟨rfl, hw9⟩; have hw9 := hw9.symm; subst hw9) | fail)
    obtain ⟨W3, hW3⟩ : ∃ W3, W3 = ((((W1.setCell ⟨w.heap.size + 1, 0, none⟩ (.int .i64 7)).setCell ⟨w.heap.size + 1, 1, none⟩ (.int .i64 vat)).setCell ⟨w.heap.size + 1, 2, none⟩ (.int .i64 r)).setCell ⟨w.heap.size + 1, 3, none⟩ (.string ⟨#[]⟩)).drew := ⟨_, rfl⟩
    rw [← hW3]
    have hF3 : Fr (only (w.heap.size + 1)) W1 W3 := by rw [hW3]; exact (((((Fr.refl (only (w.heap.size + 1)) W1).set (g := w.heap.size + 1) (fun _ => only_self _) 0 _).set (g := w.heap.size + 1) (fun _ => only_self _) 1 _).set (g := w.heap.size + 1) (fun _ => only_self _) 2 _).set (g := w.heap.size + 1) (fun _ => only_self _) 3 _).drew
    have hM3 : W3.heap[w.heap.size + 1]? = some (.cells #[.int .i64 7, .int .i64 vat, .int .i64 r, .string ⟨#[]⟩] 39 (0, 0)) := by rw [hW3]; exact blk_drew (blk_set (blk_set (blk_set (blk_set HBM1.out 0 _) 1 _) 2 _) 3 _)
    have hR3 := hF3.blk HBR1.out (fun h => by unfold only at h; omega)
    have hV3 := hF3.blk HBV1.out (fun h => hgm h)
    have HFw3 : Aside0 (Fr nope w W3) := ⟨(HF0.out.trans HF1.out (fun i _ h => h.elim)).trans hF3 (fun i hi h => by unfold only at h; omega)⟩
    have HR3 := Aside0.mk hR3
    have HV3 := Aside0.mk hV3
    have a0 : W3.cell? ⟨w.heap.size + 1, 0, none⟩ = some (.int .i64 7) := (blk_cell hM3 0).trans rfl
    have a1 : W3.cell? ⟨w.heap.size + 1, 1, none⟩ = some (.int .i64 vat) := (blk_cell hM3 1).trans rfl
    have a2 : W3.cell? ⟨w.heap.size + 1, 2, none⟩ = some (.int .i64 r) := (blk_cell hM3 2).trans rfl
    have a3 : W3.cell? ⟨w.heap.size + 1, 3, none⟩ = some (.string ⟨#[]⟩) := (blk_cell hM3 3).trans rfl
    have b0 : W3.cell? ⟨w.heap.size, 0, none⟩ = some (.int .i64 0) := (blk_cell hR3 0).trans rfl
    have b1 : W3.cell? ⟨w.heap.size, 1, none⟩ = some (.int .i64 0) := (blk_cell hR3 1).trans rfl
    have b2 : W3.cell? ⟨w.heap.size, 2, none⟩ = some (.int .i64 0) := (blk_cell hR3 2).trans rfl
    have b3 : W3.cell? ⟨w.heap.size, 3, none⟩ = some (.string ⟨#[]⟩) := (blk_cell hR3 3).trans rfl
    have e0 : W3.cell? ⟨gv, 0, none⟩ = some (.int .i64 vat) := (blk_cell hV3 0).trans rfl
    have e1 : W3.cell? ⟨gv, 1, none⟩ = some (.int .i64 vsk) := (blk_cell hV3 1).trans rfl
    have bf0 := blk_frozen hR3 0
    have bf1 := blk_frozen hR3 1
    have bf2 := blk_frozen hR3 2
    have bf3 := blk_frozen hR3 3
    have ef0 := blk_frozen hV3 0
    have ef1 := blk_frozen hV3 1
    have hgr : gv ≠ w.heap.size := by omega
    have HNX : Aside0 (Vw.next ⟨vat, vsk⟩ al (n : Int) room most strikes = if strikes ≤ vsk ∨ room < 17 then (⟨vat, vsk⟩, ⟨12, 0, 0, strL []⟩, true) else (⟨r, vsk + 1⟩, ⟨7, vat, r, strL []⟩, true)) := ⟨by
      unfold Vw.next
      rw [rbaseM_nat, HR.out, if_pos hlt]⟩
    have HM3 := Aside0.mk hM3
    have HSZ : Aside0 (∀ W, Calls Tryz.prog 151 #[.agg #[.int .i64 7, .int .i64 vat, .int .i64 r, .string ⟨#[]⟩]] W fun e w' => e = .returned (.int .i64 17) ∧ Fr nope W w') := ⟨fun W => msize_calls ⟨7, vat, r, ⟨#[]⟩⟩ W (show (⟨#[]⟩ : ByteArray).size ≤ 1000000 from by decide)⟩
    clear hM3 hR3 hV3 hF3 hW3 m0 m1 m2 m3 mf0 mf1 mf2 mf3 v0
    by_cases hs1' : strikes ≤ vsk
    · have t6 : decide (strikes ≤ vsk) = true := decide_eq_true hs1'
      have HNX2 : Aside0 (Vw.next ⟨vat, vsk⟩ al (n : Int) room most strikes = (⟨vat, vsk⟩, ⟨12, 0, 0, strL []⟩, true)) := ⟨by rw [HNX.out, if_pos (.inl hs1')]⟩
      clear hs1'
      go_wp2
      obtain ⟨W4, hW4, r0, r1, r2, r3⟩ := set4' HR3.out (.int .i64 12) (.int .i64 0) (.int .i64 0) (.string ⟨#[]⟩)
      rw [← hW4]
      refine bodyPost_ret (by simp [results, Tryz.results120, go_sem, r0, r1, r2, r3]; try rfl) rfl ?_
      rw [hW4]
      unfold VNext
      rw [HNX2.out]
      exact ⟨rfl, blk_other (blk_other (blk_other (blk_other HV3.out hgr 0 _) hgr 1 _) hgr 2 _) hgr 3 _, ((((frAny HFw3.out).set (fun h => absurd h (Nat.lt_irrefl _)) 0 _).set (fun h => absurd h (Nat.lt_irrefl _)) 1 _).set (fun h => absurd h (Nat.lt_irrefl _)) 2 _).set (fun h => absurd h (Nat.lt_irrefl _)) 3 _⟩
    · have t6 : decide (strikes ≤ vsk) = false := decide_eq_false hs1'
      by_cases hrm : room < 17
      · have t7 : decide (room < 17) = true := decide_eq_true hrm
        have HNX2 : Aside0 (Vw.next ⟨vat, vsk⟩ al (n : Int) room most strikes = (⟨vat, vsk⟩, ⟨12, 0, 0, strL []⟩, true)) := ⟨by rw [HNX.out, if_pos (.inr hrm)]⟩
        clear hs1'
        go_wp2_with (first | (go_at_call 151; refine (HSZ.out _).mono ?_; rintro e5 w5 ⟨rfl, hf5⟩; have hM5 := hf5.blk HM3.out (fun h => h); have hR5 := hf5.blk HR3.out (fun h => h); have hV5 := hf5.blk HV3.out (fun h => h); have q0 : w5.cell? ⟨w.heap.size + 1, 0, none⟩ = some (.int .i64 7) := (blk_cell hM5 0).trans rfl; have q1 : w5.cell? ⟨w.heap.size + 1, 1, none⟩ = some (.int .i64 vat) := (blk_cell hM5 1).trans rfl; have q2 : w5.cell? ⟨w.heap.size + 1, 2, none⟩ = some (.int .i64 r) := (blk_cell hM5 2).trans rfl; have q3 : w5.cell? ⟨w.heap.size + 1, 3, none⟩ = some (.string ⟨#[]⟩) := (blk_cell hM5 3).trans rfl; have p0 : w5.cell? ⟨w.heap.size, 0, none⟩ = some (.int .i64 0) := (blk_cell hR5 0).trans rfl; have p1 : w5.cell? ⟨w.heap.size, 1, none⟩ = some (.int .i64 0) := (blk_cell hR5 1).trans rfl; have p2 : w5.cell? ⟨w.heap.size, 2, none⟩ = some (.int .i64 0) := (blk_cell hR5 2).trans rfl; have p3 : w5.cell? ⟨w.heap.size, 3, none⟩ = some (.string ⟨#[]⟩) := (blk_cell hR5 3).trans rfl; have s0 : w5.cell? ⟨gv, 0, none⟩ = some (.int .i64 vat) := (blk_cell hV5 0).trans rfl; have s1 : w5.cell? ⟨gv, 1, none⟩ = some (.int .i64 vsk) := (blk_cell hV5 1).trans rfl; have pf0 := blk_frozen hR5 0; have pf1 := blk_frozen hR5 1; have pf2 := blk_frozen hR5 2; have pf3 := blk_frozen hR5 3; have sf0 := blk_frozen hV5 0; have sf1 := blk_frozen hV5 1; have HR5 := Aside0.mk hR5; have HV5 := Aside0.mk hV5; have HF5 := Aside0.mk hf5; clear hM5 hR5 hV5 hf5))
        obtain ⟨W4, hW4, r0, r1, r2, r3⟩ := set4' HR5.out (.int .i64 12) (.int .i64 0) (.int .i64 0) (.string ⟨#[]⟩)
        rw [← hW4]
        refine bodyPost_ret (by simp [results, Tryz.results120, go_sem, r0, r1, r2, r3]; try rfl) rfl ?_
        rw [hW4]
        unfold VNext
        rw [HNX2.out]
        exact ⟨rfl, blk_other (blk_other (blk_other (blk_other HV5.out hgr 0 _) hgr 1 _) hgr 2 _) hgr 3 _, ((((frAny (frThru HFw3.out HF5.out)).set (fun h => absurd h (Nat.lt_irrefl _)) 0 _).set (fun h => absurd h (Nat.lt_irrefl _)) 1 _).set (fun h => absurd h (Nat.lt_irrefl _)) 2 _).set (fun h => absurd h (Nat.lt_irrefl _)) 3 _⟩
      · have t7 : decide (room < 17) = false := decide_eq_false hrm
        have HNX2 : Aside0 (Vw.next ⟨vat, vsk⟩ al (n : Int) room most strikes = (⟨r, vsk + 1⟩, ⟨7, vat, r, strL []⟩, true)) := ⟨by rw [HNX.out, if_neg (by rintro (h | h); exact hs1' h; exact hrm h)]⟩
        clear hs1'
        go_wp2_with (first | (go_at_call 151; refine (HSZ.out _).mono ?_; rintro e5 w5 ⟨rfl, hf5⟩; have hM5 := hf5.blk HM3.out (fun h => h); have hR5 := hf5.blk HR3.out (fun h => h); have hV5 := hf5.blk HV3.out (fun h => h); have q0 : w5.cell? ⟨w.heap.size + 1, 0, none⟩ = some (.int .i64 7) := (blk_cell hM5 0).trans rfl; have q1 : w5.cell? ⟨w.heap.size + 1, 1, none⟩ = some (.int .i64 vat) := (blk_cell hM5 1).trans rfl; have q2 : w5.cell? ⟨w.heap.size + 1, 2, none⟩ = some (.int .i64 r) := (blk_cell hM5 2).trans rfl; have q3 : w5.cell? ⟨w.heap.size + 1, 3, none⟩ = some (.string ⟨#[]⟩) := (blk_cell hM5 3).trans rfl; have p0 : w5.cell? ⟨w.heap.size, 0, none⟩ = some (.int .i64 0) := (blk_cell hR5 0).trans rfl; have p1 : w5.cell? ⟨w.heap.size, 1, none⟩ = some (.int .i64 0) := (blk_cell hR5 1).trans rfl; have p2 : w5.cell? ⟨w.heap.size, 2, none⟩ = some (.int .i64 0) := (blk_cell hR5 2).trans rfl; have p3 : w5.cell? ⟨w.heap.size, 3, none⟩ = some (.string ⟨#[]⟩) := (blk_cell hR5 3).trans rfl; have s0 : w5.cell? ⟨gv, 0, none⟩ = some (.int .i64 vat) := (blk_cell hV5 0).trans rfl; have s1 : w5.cell? ⟨gv, 1, none⟩ = some (.int .i64 vsk) := (blk_cell hV5 1).trans rfl; have pf0 := blk_frozen hR5 0; have pf1 := blk_frozen hR5 1; have pf2 := blk_frozen hR5 2; have pf3 := blk_frozen hR5 3; have sf0 := blk_frozen hV5 0; have sf1 := blk_frozen hV5 1; have HR5 := Aside0.mk hR5; have HV5 := Aside0.mk hV5; have HF5 := Aside0.mk hf5; clear hM5 hR5 hV5 hf5))
        have hR6 := blk_other (blk_other HR5.out (fun e => hgr e.symm) 0 (.int .i64 r)) (fun e => hgr e.symm) 1 (.int .i64 (vsk + 1))
        obtain ⟨W4, hW4, r0, r1, r2, r3⟩ := set4' hR6 (.int .i64 7) (.int .i64 vat) (.int .i64 r) (.string ⟨#[]⟩)
        rw [← hW4]
        refine bodyPost_ret (by simp [results, Tryz.results120, go_sem, r0, r1, r2, r3]; try rfl) rfl ?_
        rw [hW4]
        unfold VNext
        rw [HNX2.out]
        refine ⟨rfl, ?_, ((((((frAny (S := only gv) (frThru HFw3.out HF5.out)).set (g := gv) (fun _ => only_self gv) 0 _).set (g := gv) (fun _ => only_self gv) 1 _).set (fun h => absurd h (Nat.lt_irrefl _)) 0 _).set (fun h => absurd h (Nat.lt_irrefl _)) 1 _).set (fun h => absurd h (Nat.lt_irrefl _)) 2 _).set (fun h => absurd h (Nat.lt_irrefl _)) 3 _⟩
        exact blk_other (blk_other (blk_other (blk_other (blk_set (blk_set HV5.out 0 (.int .i64 r)) 1 (.int .i64 (vsk + 1))) hgr 0 (.int .i64 7)) hgr 1 (.int .i64 vat)) hgr 2 (.int .i64 r)) hgr 3 (.string ⟨#[]⟩)
  · have t1 : decide (vat < r) = false := decide_eq_false hlt
    obtain ⟨k1, hk1⟩ : ∃ k, max room 0 = k := ⟨_, rfl⟩
    obtain ⟨k, hk⟩ : ∃ k, min (min most (k1 - 5 - 6)) 2042 = k := ⟨_, rfl⟩
    have km1 := run_imax (P := Tryz.prog) room 0 k1 hk1
    have km2 := run_imin3 (P := Tryz.prog) most (k1 - 5 - 6) 2042 k hk
    have hk1b : 0 ≤ k1 ∧ k1 ≤ 100000 := by omega
    have hkb : -100 ≤ k ∧ k ≤ 2042 := by omega
    obtain ⟨xs, hxs⟩ : ∃ xs, (al.drop vat).take k.toNat = xs := ⟨_, rfl⟩
    have HXS := Aside0.mk hxs
    have hxl : xs.length ≤ 2042 := by rw [← hxs, List.length_take]; omega
    have hxl2 : vat + xs.length ≤ al.length := by rw [← hxs, List.length_take, List.length_drop]; omega
    have HK12 : Aside0 (min (min most (max room 0 - 5 - 6)) 2042 = k) := ⟨by rw [hk1]; exact hk⟩
    clear hxs hk hk1
    go_enter Tryz.func120, Tryz.ntmps120
    go_wp2
    rw [← HW0.out]
    go_quiet ((go_at_call 150; exact Calls.quiet_of_same (HBASE.out _ ((Fr.refl _ _).drewN _))))
    obtain ⟨W1, hW1⟩ : ∃ W1, W1 = World.drewN W0 nq := ⟨_, rfl⟩
    rw [← hW1]
    have hF1 : Fr nope W0 W1 := by rw [hW1]; exact (Fr.refl _ _).drewN _
    have HF1 := Aside0.mk hF1
    have HIR1 : Aside0 (IsR W1 g gb al n) := ⟨HIR.out.fr hF1 (fun h => h) (fun h => h)⟩
    have HBR1 := Aside0.mk (hF1.blk HBR.out (fun h => h))
    have HBM1 := Aside0.mk (hF1.blk HBM.out (fun h => h))
    have HBV1 := Aside0.mk (hF1.blk HBV.out (fun h => h))
    have hs1 : w.heap.size + 1 < W1.heap.size := blk_lt HBM1.out
    clear hW1 hF1 v0 v1 fv0 fv1 HBM HBR HBV HIR
    have HC : Aside0 (Calls Tryz.prog 152 #[.pointer (some ⟨g, 0, none⟩), .int .i64 vat, .int .i64 k] W1 fun e w' => ∃ A c, e = .returned (.tuple #[.slice A xs.length c, .bool true]) ∧ w'.ownsRow W1.heap.size 5 1 (.slice A xs.length c) xs.length (nums .u8 xs) ∧ Fr nope W1 w') :=
      ⟨rread_calls al xs n g gb vat k W1 HIR1.out hn hnm (by omega) (by rw [HR.out]; omega) hvl (by omega) (by omega) HXS.out⟩
    have v0 : W1.cell? ⟨gv, 0, none⟩ = some (.int .i64 vat) := (blk_cell HBV1.out 0).trans rfl
    clear t1
    have t1 : decide (vat < r) = false := decide_eq_false hlt
    go_wp2_with (first | (go_at_call 152; refine HC.out.mono ?_; rintro e2 w2 ⟨A2, c2, rfl, ho2, hf2⟩; have HO2 := Aside0.mk ho2; have HF2 := Aside0.mk hf2; have hs2 : W1.heap.size ≤ w2.heap.size := hf2.size; clear ho2 hf2))
    have HBR2 := Aside0.mk (HF2.out.blk HBR1.out (fun h => h))
    have HBM2 := Aside0.mk (HF2.out.blk HBM1.out (fun h => h))
    have HBV2 := Aside0.mk (HF2.out.blk HBV1.out (fun h => h))
    have u0 : w2.cell? ⟨gv, 0, none⟩ = some (.int .i64 vat) := (blk_cell HBV2.out 0).trans rfl
    obtain ⟨st, hst⟩ : ∃ st, st = strOfNums xs := ⟨_, rfl⟩
    have hcv : ∀ w1, ReadsInt w1 .u8 A2 xs.length xs → (convert 29 9 (.slice A2 xs.length c2)).run Tryz.prog w1 = .ok (.string st) w1 := fun w1 h => by rw [hst]; exact string_of_reads (P := Tryz.prog) (c := c2) Tryz.underlying29 Tryz.underlying5 Tryz.underlying9 h
    have m0 : w2.cell? ⟨w.heap.size + 1, 0, none⟩ = some (.int .i64 0) := (blk_cell HBM2.out 0).trans rfl
    have m1 : w2.cell? ⟨w.heap.size + 1, 1, none⟩ = some (.int .i64 0) := (blk_cell HBM2.out 1).trans rfl
    have m2 : w2.cell? ⟨w.heap.size + 1, 2, none⟩ = some (.int .i64 0) := (blk_cell HBM2.out 2).trans rfl
    have m3 : w2.cell? ⟨w.heap.size + 1, 3, none⟩ = some (.string ⟨#[]⟩) := (blk_cell HBM2.out 3).trans rfl
    have mf0 := blk_frozen HBM2.out 0
    have mf1 := blk_frozen HBM2.out 1
    have mf2 := blk_frozen HBM2.out 2
    have mf3 := blk_frozen HBM2.out 3
    have hgm : gv ≠ w.heap.size + 1 := by omega
    have hAm : ∀ ad, A2 = some ad → ad.block ≠ w.heap.size + 1 := fun ad e h => by
      subst e
      rcases HO2.out.2 with ⟨e2, _⟩ | ⟨q, cap, cur, e2, hb, _⟩
      · cases e2
      · simp only [Value.slice.injEq, Option.some.injEq] at e2
        obtain ⟨rfl, _, _⟩ := e2
        simp only at h
        omega
    have HK : Aside0 (∀ w', Fr (only (w.heap.size + 1)) w2 w' → w'.cell? ⟨gv, 0, none⟩ = some (.int .i64 vat) ∧ (convert 29 9 (.slice A2 xs.length c2)).run Tryz.prog w' = .ok (.string st) w' ∧ Fr (only (w.heap.size + 1)) w2 w') :=
      ⟨fun w' hF => ⟨frCell hF u0 (fun h => hgm h), hcv w' (hF.reads (own_reads' HO2.out) (fun ad e h => hAm ad e h)), hF⟩⟩
    have HST := Aside0.mk hst
    clear hst hcv hAm
    go_region_held3 (fun w' => w'.cell? ⟨gv, 0, none⟩ = some (.int .i64 vat) ∧ (convert 29 9 (.slice A2 xs.length c2)).run Tryz.prog w' = .ok (.string st) w' ∧ Fr (only (w.heap.size + 1)) w2 w')
      (first | exact HK.out _ (Fr.refl _ w2).drew | exact HK.out _ (((((Fr.refl (only (w.heap.size + 1)) w2).set (g := w.heap.size + 1) (fun _ => only_self _) 0 _).set (g := w.heap.size + 1) (fun _ => only_self _) 1 _).set (g := w.heap.size + 1) (fun _ => only_self _) 2 _).set (g := w.heap.size + 1) (fun _ => only_self _) 3 _).drew | fail) (fail)
    obtain ⟨W3, hW3⟩ : ∃ W3, W3 = ((((w2.setCell ⟨w.heap.size + 1, 0, none⟩ (.int .i64 6)).setCell ⟨w.heap.size + 1, 1, none⟩ (.int .i64 vat)).setCell ⟨w.heap.size + 1, 2, none⟩ (.int .i64 0)).setCell ⟨w.heap.size + 1, 3, none⟩ (.string st)).drew := ⟨_, rfl⟩
    rw [← hW3]
    have hF3 : Fr (only (w.heap.size + 1)) w2 W3 := by rw [hW3]; exact (((((Fr.refl (only (w.heap.size + 1)) w2).set (g := w.heap.size + 1) (fun _ => only_self _) 0 _).set (g := w.heap.size + 1) (fun _ => only_self _) 1 _).set (g := w.heap.size + 1) (fun _ => only_self _) 2 _).set (g := w.heap.size + 1) (fun _ => only_self _) 3 _).drew
    have hM3 : W3.heap[w.heap.size + 1]? = some (.cells #[.int .i64 6, .int .i64 vat, .int .i64 0, .string st] 39 (0, 0)) := by rw [hW3]; exact blk_drew (blk_set (blk_set (blk_set (blk_set HBM2.out 0 _) 1 _) 2 _) 3 _)
    have hR3 := hF3.blk HBR2.out (fun h => by unfold only at h; omega)
    have hV3 := hF3.blk HBV2.out (fun h => hgm h)
    have HFw3 : Aside0 (Fr nope w W3) := ⟨(HF0.out.trans (HF1.out.trans HF2.out (fun i _ h => h.elim)) (fun i _ h => h.elim)).trans hF3 (fun i hi h => by unfold only at h; omega)⟩
    have HR3 := Aside0.mk hR3
    have HV3 := Aside0.mk hV3
    have a0 : W3.cell? ⟨w.heap.size + 1, 0, none⟩ = some (.int .i64 6) := (blk_cell hM3 0).trans rfl
    have a1 : W3.cell? ⟨w.heap.size + 1, 1, none⟩ = some (.int .i64 vat) := (blk_cell hM3 1).trans rfl
    have a2 : W3.cell? ⟨w.heap.size + 1, 2, none⟩ = some (.int .i64 0) := (blk_cell hM3 2).trans rfl
    have a3 : W3.cell? ⟨w.heap.size + 1, 3, none⟩ = some (.string st) := (blk_cell hM3 3).trans rfl
    have b0 : W3.cell? ⟨w.heap.size, 0, none⟩ = some (.int .i64 0) := (blk_cell hR3 0).trans rfl
    have b1 : W3.cell? ⟨w.heap.size, 1, none⟩ = some (.int .i64 0) := (blk_cell hR3 1).trans rfl
    have b2 : W3.cell? ⟨w.heap.size, 2, none⟩ = some (.int .i64 0) := (blk_cell hR3 2).trans rfl
    have b3 : W3.cell? ⟨w.heap.size, 3, none⟩ = some (.string ⟨#[]⟩) := (blk_cell hR3 3).trans rfl
    have e0 : W3.cell? ⟨gv, 0, none⟩ = some (.int .i64 vat) := (blk_cell hV3 0).trans rfl
    have bf0 := blk_frozen hR3 0
    have bf1 := blk_frozen hR3 1
    have bf2 := blk_frozen hR3 2
    have bf3 := blk_frozen hR3 3
    have ef0 := blk_frozen hV3 0
    have hgr : gv ≠ w.heap.size := by omega
    have HNX : Aside0 (Vw.next ⟨vat, vsk⟩ al (n : Int) room most strikes = if xs = [] then (⟨vat, vsk⟩, mg0, false) else (⟨vat + xs.length, vsk⟩, ⟨6, vat, 0, st⟩, true)) := ⟨by
      unfold Vw.next
      rw [rbaseM_nat, HR.out, if_neg hlt]
      simp only []
      rw [HK12.out, HXS.out, HST.out]⟩
    have HM3 := Aside0.mk hM3
    clear hM3 hR3 hV3 hF3 hW3 u0 m0 m1 m2 m3 mf0 mf1 mf2 mf3 v0
    by_cases hx0 : xs = []
    · have t5 : ((xs.length : Int) == 0) = true := by rw [hx0]; rfl
      have HNX2 : Aside0 (Vw.next ⟨vat, vsk⟩ al (n : Int) room most strikes = (⟨vat, vsk⟩, mg0, false)) := ⟨by rw [HNX.out, if_pos hx0]⟩
      have hxl0 : xs.length ≤ 0 := by rw [hx0]; exact Nat.le_refl _
      clear hx0
      go_wp2
      obtain ⟨W4, hW4, r0, r1, r2, r3⟩ := set4' HR3.out (.int .i64 0) (.int .i64 0) (.int .i64 0) (.string ⟨#[]⟩)
      rw [← hW4]
      refine bodyPost_ret (by simp [results, Tryz.results120, go_sem, r0, r1, r2, r3]; try rfl) rfl ?_
      rw [hW4]
      unfold VNext
      rw [HNX2.out]
      exact ⟨rfl, blk_other (blk_other (blk_other (blk_other HV3.out hgr 0 _) hgr 1 _) hgr 2 _) hgr 3 _, ((((frAny HFw3.out).set (fun h => absurd h (Nat.lt_irrefl _)) 0 _).set (fun h => absurd h (Nat.lt_irrefl _)) 1 _).set (fun h => absurd h (Nat.lt_irrefl _)) 2 _).set (fun h => absurd h (Nat.lt_irrefl _)) 3 _⟩
    · have hxp : 0 < xs.length := by cases xs; exact absurd rfl hx0; simp
      have t5 : ((xs.length : Int) == 0) = false := beq_eq_false_iff_ne.2 (by omega)
      have HNX2 : Aside0 (Vw.next ⟨vat, vsk⟩ al (n : Int) room most strikes = (⟨vat + xs.length, vsk⟩, ⟨6, vat, 0, st⟩, true)) := ⟨by rw [HNX.out, if_neg hx0]⟩
      clear hx0
      go_wp2
      have hR4 := blk_other HR3.out (fun e => hgr e.symm) 0 (.int .i64 ((vat : Int) + (xs.length : Int)))
      obtain ⟨W4, hW4, r0, r1, r2, r3⟩ := set4' hR4 (.int .i64 6) (.int .i64 vat) (.int .i64 0) (.string st)
      rw [← hW4]
      refine bodyPost_ret (by simp [results, Tryz.results120, go_sem, r0, r1, r2, r3]; try rfl) rfl ?_
      rw [hW4]
      unfold VNext
      rw [HNX2.out]
      refine ⟨rfl, ?_, (((((frAny (S := only gv) HFw3.out).set (g := gv) (fun _ => only_self gv) 0 _).set (fun h => absurd h (Nat.lt_irrefl _)) 0 _).set (fun h => absurd h (Nat.lt_irrefl _)) 1 _).set (fun h => absurd h (Nat.lt_irrefl _)) 2 _).set (fun h => absurd h (Nat.lt_irrefl _)) 3 _⟩
      have h1 := blk_other (blk_other (blk_other (blk_other (blk_set HV3.out 0 (.int .i64 ((vat : Int) + (xs.length : Int)))) hgr 0 (.int .i64 6)) hgr 1 (.int .i64 vat)) hgr 2 (.int .i64 0)) hgr 3 (.string st)
      have e : ((vat + xs.length : Nat) : Int) = (vat : Int) + (xs.length : Int) := by omega
      unfold IsV
      simp only [e]
      exact h1
end Go.Proofs.YtfkamoiamebngaaGreatDoor.BroW
