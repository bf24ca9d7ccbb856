/- The law LexLong, walked: true. -/
import Derived.Test.YtajhahgaeihfaaaLexB
namespace Go.Proofs.Ytajhahgaeihfaaa.LexW
open Go.RowKit Go.Proofs.YtajhahgaeihfaaaW.PrintWords Go.Proofs.YtajhahgaeihfaaaW.PrintMore Go.Proofs.Ytajhahgaeihfaaa.Fr Go.Proofs.Ytajhahgaeihfaaa.LexP Go.Proofs.Ytajhahgaeihfaaa.Openers
set_option linter.unusedVariables false
set_option linter.unusedSimpArgs false

theorem i64_and7 (n : Int) : bits .and .i64 n 7 = n % 8 := by
  have h7 : (BitVec.ofInt 64 7).toNat = 2 ^ 3 - 1 := by decide
  have key : (BitVec.ofInt 64 n &&& BitVec.ofInt 64 7).toNat = (n % ((2 ^ 64 : Nat) : Int)).toNat % 2 ^ 3 := by
    rw [BitVec.toNat_and, BitVec.toNat_ofInt, h7, Nat.and_two_pow_sub_one_eq_mod]
  show IntKind.i64.wrap ((BitVec.ofInt 64 n &&& BitVec.ofInt 64 7).toNat : Nat) = n % 8
  rw [key, IntKind.wrap_i64]
  omega

/-- so many signs c -/
def rep (k : Nat) : ByteArray := ⟨(List.replicate k 99).toArray⟩
theorem rep_zero : (⟨#[]⟩ : ByteArray) = rep 0 := rfl
theorem bytes_ext {a b : ByteArray} (h : a.data.toList = b.data.toList) : a = b := by
  cases a; cases b
  simp at h
  simp [h]
theorem append_data (a b : ByteArray) : (a ++ b).data.toList = a.data.toList ++ b.data.toList := by
  rw [ByteArray.data_append]; simp
theorem rep_succ (k : Nat) : rep k ++ (⟨#[99]⟩ : ByteArray) = rep (k + 1) := by
  apply bytes_ext
  rw [append_data]
  simp [rep, List.replicate_succ']
theorem rep_nums (k : Nat) : strOfNums (List.replicate k 99) = rep k := by
  apply bytes_ext
  simp [strOfNums, rep]
theorem rep_bytes (k : Nat) : bytesOf ((⟨#[29, 58]⟩ : ByteArray) ++ rep k) = 29 :: 58 :: List.replicate k 99 := by
  unfold bytesOf
  rw [append_data]
  simp [rep]
theorem rep_toList (k : Nat) : (rep k).toList = List.replicate k 99 := by rw [ByteArray.toList_eq]; simp [rep]
theorem rep_size (k : Nat) : (rep k).size = k := by simp [rep, ByteArray.size]

theorem lex_cs (j : Nat) : ∀ i, lexAll ⟨2, List.replicate (min i 80) 99, decide (80 < i)⟩ (List.replicate j 99) = (⟨2, List.replicate (min (i + j) 80) 99, decide (80 < i + j)⟩, [], []) := by
  induction j with
  | zero => intro i; simp [lexAll]
  | succ j ih =>
    intro i
    have hs : lexStep ⟨2, List.replicate (min i 80) 99, decide (80 < i)⟩ 99 = (⟨2, List.replicate (min (i + 1) 80) 99, decide (80 < i + 1)⟩, [], []) := by
      simp only [lexStep]
      rw [if_neg (by decide), if_pos trivial, if_neg (by decide)]
      by_cases h : 80 ≤ i
      · have h1 : (decide (80 < i) || (List.replicate (min i 80) (99 : Int)).length == 80) = true := by simp; omega
        have h2 : decide (80 < i + 1) = true := by simp; omega
        have h3 : min i 80 = 80 := by omega
        have h4 : min (i + 1) 80 = 80 := by omega
        rw [h3] at h1 ⊢
        simp only [h1, h2, h4, if_true]
      · have h1 : (decide (80 < i) || (List.replicate (min i 80) (99 : Int)).length == 80) = false := by simp; omega
        have h2 : decide (80 < i + 1) = false := by simp; omega
        have h3 : min i 80 = i := by omega
        have h4 : min (i + 1) 80 = i + 1 := by omega
        rw [h3] at h1 ⊢
        simp only [h1, h2, h4, Bool.false_eq_true, if_false]
        rw [List.replicate_succ']
    rw [List.replicate_succ, lexAll, hs]
    simp only [ih, List.append_nil]
    rw [show i + 1 + j = i + (j + 1) from by omega]

theorem lex_begin (N : Nat) : lexAll lex0 (29 :: 58 :: List.replicate N 99) = (⟨2, List.replicate (min N 80) 99, decide (80 < N)⟩, [], []) := by
  have h := lex_cs N 0
  simp only [Nat.zero_min, List.replicate_zero, Nat.zero_add, Nat.not_lt_zero, decide_false] at h
  have h1 : lexStep lex0 29 = (⟨1, [], false⟩, [], []) := rfl
  have h2 : lexStep ⟨1, [], false⟩ 58 = (⟨2, [], false⟩, [], []) := rfl
  simp only [lexAll, h1, h2, h, List.append_nil]

theorem lex_end (N : Nat) : lexAll ⟨2, List.replicate (min N 80) 99, decide (80 < N)⟩ [10] = (⟨0, List.replicate (min N 80) 99, decide (80 < N)⟩, [], [if 80 < N then ⟨#[]⟩ else rep N]) := by
  simp only [lexAll, lexStep]
  rw [if_neg (by decide), if_pos trivial, if_pos trivial]
  by_cases h : 80 < N
  · simp [h]
  · have : min N 80 = N := by omega
    simp [h, this, rep_nums]

/-- what comes does not hang on what was left of the last command -/
theorem lex_same (l : List Int) : ∀ s s' : LexS, s.st = s'.st → (s.st = 2 → s = s') → (lexAll s l).2 = (lexAll s' l).2 := by
  induction l with
  | nil => intro s s' _ _; rfl
  | cons c cs ih =>
    rintro ⟨st, T, lg⟩ ⟨st', T', lg'⟩ h h2
    dsimp only at h h2
    subst h
    by_cases hst : st = 2
    · rw [h2 hst]
    · have h3 : (lexStep ⟨st, T, lg⟩ c).2 = (lexStep ⟨st, T', lg'⟩ c).2 ∧ (lexStep ⟨st, T, lg⟩ c).1.st = (lexStep ⟨st, T', lg'⟩ c).1.st ∧ ((lexStep ⟨st, T, lg⟩ c).1.st = 2 → (lexStep ⟨st, T, lg⟩ c).1 = (lexStep ⟨st, T', lg'⟩ c).1) := by
        simp only [lexStep]
        by_cases h1 : st = 1
        · rw [if_pos h1, if_pos h1]
          by_cases h29 : c = 29
          · simp [h29]
          · by_cases h58 : c = 58
            · simp [h58]
            · simp [h29, h58]
        · rw [if_neg h1, if_neg h1, if_neg hst, if_neg hst]
          by_cases h29 : c = 29
          · simp [h29]
          · simp [h29, hst]
      have h4 := ih _ _ h3.2.1 h3.2.2
      simp only [lexAll]
      rw [h3.1, h4]

theorem push_below {w wr : World} {b0 g : Nat} {tv : Value} {s : LexS} {K : List Int} {O : List ByteArray} {kv ov tvk : Value} (h : PushInv w b0 g tv s K O kv ov tvk wr) (hg : b0 ≤ g) (ht : ∀ b, tv.ownBlock = some b → b0 ≤ b) (hb : b0 ≤ w.heap.size) : Below b0 w wr :=
  h.2.2.2.2.2.2.to_below hb (fun i hi => by rcases hi with rfl | hi; exact hg; exact ht i hi)
/-- another row of texts lives on behind a push -/
theorem push_texts {w wr : World} {b0 b1 g : Nat} {tv v : Value} {s s0 : LexS} {K : List Int} {O X : List ByteArray} {kv ov tvk : Value} (h : PushInv w b0 g tv s K O kv ov tvk wr) (hL : IsLex w b0 g s0 tv) (hv : w.ownsRow b1 9 1 v X.length (encs Value.string X)) :
    wr.ownsRow b1 9 1 v X.length (encs Value.string X) :=
  h.2.2.2.2.2.2.own hv (fun b hb hs => by
    rcases hs with rfl | hs
    · exact (own_ne hv hL.1 (by decide)) hb.symm
    · exact (ne_types hv hL.2 (by decide)) b hb hs)

set_option maxHeartbeats 400000 in
set_option maxRecDepth 100000 in
theorem long_calls (n : Int) (more : ByteArray) (w : World) (hm : more.size ≤ 140737488351232) :
    Calls Try.prog 7 #[.int .i64 n, .string more] w fun e w' => e = .returned (.bool true) ∧ Below w.heap.size w w' := by
  obtain ⟨m, hm1, hm2⟩ : ∃ m : Nat, bits BinOp.and IntKind.i64 n 7 = m ∧ m ≤ 7 := ⟨(n % 8).toNat, by rw [i64_and7]; omega, by omega⟩
  by_cases h100 : 100 < more.size
  · go_enter Try.func7, Try.ntmps7
    go_wp2_with (go_at_call 13; refine (head_calls _).mono ?_; rintro e w1 ⟨rfl, hb1⟩; have HB1 := Aside0.mk hb1; clear hb1)
    go_ret
    exact ⟨rfl, HB1.out⟩
  · go_enter Try.func7, Try.ntmps7
    go_wp2_with (go_at_call 13; refine (head_calls _).mono ?_; rintro e w1 ⟨rfl, hb1⟩; have HB1 := Aside0.mk hb1; clear hb1)
    clear hm1
    go_loop [5, 6] (fun v5 v6 => ∃ k : Nat, v6 = .int .i64 k ∧ k ≤ 76 + m ∧ v5 = .string (rep k)) (fun _ i => 76 + m - (intOf i).toNat)
    case atStart => exact ⟨0, rfl, Nat.zero_le _, rfl⟩
    case round =>
      obtain ⟨k, rfl, hk, rfl⟩ := hrel
      have hrs : (rep k).size ≤ 83 := by rw [rep_size]; omega
      by_cases hlt : k < 76 + m
      · go_wp2
        go_round
        case rel => exact ⟨k + 1, by go_num, by omega, by rw [rep_succ]⟩
        case measure => simp [intOf]; omega
      · obtain ⟨N, hN⟩ : ∃ N : Nat, N = 76 + m := ⟨_, rfl⟩
        obtain rfl : k = N := by omega
        obtain ⟨str, hstr⟩ : ∃ str, (⟨#[29, 58]⟩ : ByteArray) ++ rep k = str := ⟨_, rfl⟩
        obtain ⟨B, hB⟩ : ∃ B, bytesOf str = B := ⟨_, rfl⟩
        have hBl : B.length = k + 2 := by rw [← hB, ← hstr, rep_bytes]; simp
        have hBs : str.size = B.length := by rw [← hB, bytesOf_length]
        have hcv := fun W => print_bytes (P := Try.prog) 9 34 5 Try.underlying9 Try.underlying34 Try.underlying5 str W
        rw [hBs] at hcv
        have hrb := fun W => bytes_reads W 5 str (by omega)
        rw [hB, hBs] at hrb
        have HRB := Aside0.mk hrb
        have HLB := Aside0.mk (show lexAll lex0 B = (⟨2, List.replicate (min k 80) 99, decide (80 < k)⟩, [], []) by rw [← hB, ← hstr, rep_bytes, lex_begin])
        have hB100 : B.length ≤ 100 := by omega
        have hk83 : k ≤ 83 := by omega
        have hk76 : 76 ≤ k := by omega
        clear hB hBs hrb hN hBl
        go_wp2_with (go_at_call 14; refine (new_calls w.heap.size _).mono ?_; rintro e w2 ⟨rfl, hl2, hb2⟩; have HL2 := Aside0.mk hl2; have HB2 := Aside0.mk hb2; have hs2 : w1.heap.size ≤ w2.heap.size := hb2.size; clear hl2 hb2)
        have kc := fun (w : World) (C : Array Value) (n c : Nat) => Lib.run_convert_bytes_const (P := Try.prog) w 34 5 C n c Try.underlying34 Try.underlying5
        obtain ⟨cpB, hcpB⟩ : ∃ c, grownCap w2 B.length 0 5 = c := ⟨_, rfl⟩
        have hbw : Fr nope w2 (Lib.bytesWorld w2 5 str) := Fr.of_below (bytes_below (Below.refl _ _) (Nat.le_refl _) _ _)
        have HBW := Aside0.mk hbw
        clear hbw
        go_wp2_with fail
        refine (push_to B HLB.out (some ⟨w2.heap.size, 0, none⟩) _ w1.heap.size (.slice none 0 0) w.heap.size _ (by have h1 := HBW.out.size; have h2 := HB1.out.size; omega) ⟨HBW.out.blk HL2.out.1 id, own_nil _ _ _ _⟩ (by simp [Value.ownBlock]) (.inl rfl) (by decide) (HRB.out w2) (fun h0 ad e => by cases e; exact ⟨by have := blk_lt HL2.out.1; simp only [ne_eq]; omega, by simp [Value.ownBlock]⟩) (by omega)).mono ?_
        rintro e w3 ⟨kv, ov, tvk, rfl, hinv⟩
        obtain ⟨A3, c3, rfl⟩ := own_slice hinv.2.2.1
        obtain ⟨A4, c4, rfl⟩ := own_slice hinv.2.2.2.1
        have HI3 := Aside0.mk hinv
        clear hinv
        have hw13 : w1.heap.size < w3.heap.size := blk_lt HI3.out.1.1
        have HL3 := Aside0.mk HI3.out.1
        have HN3 := Aside0.mk HI3.out.2.1
        have hw01 := HB1.out.size
        have hwb2 := HBW.out.size
        have b2 : Below w.heap.size w1 w2 := HB2.out.mono hw01
        have b2b : Below w.heap.size w2 (Lib.bytesWorld w2 5 str) := HBW.out.to_below (by omega) (fun i h => h.elim)
        have b3 : Below w.heap.size (Lib.bytesWorld w2 5 str) w3 := push_below HI3.out hw01 (fun b hb => by simp [Value.ownBlock] at hb) (by omega)
        have HB3 := Aside0.mk (((HB1.out.trans b2).trans b2b).trans b3)
        clear b2 b2b b3
        have HR10 := Aside0.mk (reads_lit w3 .u8 [10] 5 (1, 2) (by decide))
        obtain ⟨s0, hs0⟩ : ∃ s0, (if 80 < k then ⟨#[]⟩ else rep k) = s0 := ⟨_, rfl⟩
        have HE10 := Aside0.mk (show lexAll ⟨2, List.replicate (min k 80) 99, decide (80 < k)⟩ [10] = (⟨0, List.replicate (min k 80) 99, decide (80 < k)⟩, [], [s0]) by rw [lex_end, hs0])
        have HS0 := Aside0.mk hs0
        obtain ⟨M, hM⟩ : ∃ M, bytesOf more = M := ⟨_, rfl⟩
        have hMs : more.size = M.length := by rw [← hM, bytesOf_length]
        have hM100 : M.length ≤ 100 := by omega
        have hcm := fun W => print_bytes (P := Try.prog) 9 34 5 Try.underlying9 Try.underlying34 Try.underlying5 more W
        rw [hMs] at hcm
        have hrm := fun W => bytes_reads W 5 more (by omega)
        rw [hM, hMs] at hrm
        have HRM := Aside0.mk hrm
        have HBM : Aside0 (∀ W : World, Fr nope W (Lib.bytesWorld W 5 more)) := ⟨fun W => Fr.of_below (bytes_below (Below.refl _ _) (Nat.le_refl _) _ _)⟩
        obtain ⟨s3, k3, o3, hE3⟩ : ∃ s3 k3 o3, lexAll ⟨0, List.replicate (min k 80) 99, decide (80 < k)⟩ M = (s3, k3, o3) := ⟨_, _, _, rfl⟩
        have hE3p : lexAll lex0 M = ((lexAll lex0 M).1, k3, o3) := by
          have h1 := lex_same M ⟨0, List.replicate (min k 80) 99, decide (80 < k)⟩ lex0 rfl (fun h => by simp at h)
          rw [hE3] at h1
          rw [Prod.ext_iff]
          exact ⟨rfl, h1.symm⟩
        have hk3 : k3.length ≤ 100 := by have := (lexAll_len M ⟨0, List.replicate (min k 80) 99, decide (80 < k)⟩).1; rw [hE3] at this; simp at this; omega
        have ho3 : o3.length ≤ 100 := by have := (lexAll_len M ⟨0, List.replicate (min k 80) 99, decide (80 < k)⟩).2; rw [hE3] at this; simp at this; omega
        have HE3 := Aside0.mk hE3
        have HE3p := Aside0.mk hE3p
        have HT80 := Aside0.mk (show (List.replicate (min k 80) (99 : Int)).length ≤ 80 by simp; omega)
        have hcap : ∀ W, ∃ c, grownCap W M.length 0 5 = c ∧ M.length ≤ c := fun W => ⟨_, rfl, grownCap_ge _ _ _ _⟩
        clear hs0 hM hMs hrm hE3 hE3p
        have hw0 : w.heap.size ≤ w1.heap.size := HB1.out.size
        go_wp2_with fail
        refine (push_to [10] HE10.out (some ⟨w3.heap.size, 0, none⟩) 1 w1.heap.size tvk w.heap.size _ (by simp; omega) ⟨blk_alloc HL3.out.1 _, HL3.out.2.alloc _⟩ HN3.out (.inr (.inr rfl)) HT80.out HR10.out (fun h0 ad e => by cases e; exact ⟨by simp; omega, fun e2 => by have := own_lt HL3.out.2 _ e2; simp at this⟩) (by decide)).mono ?_
        rintro e w4 ⟨kv2, ov2, tvk2, rfl, hinv⟩
        obtain ⟨A5, c5, rfl⟩ := own_slice hinv.2.2.1
        obtain ⟨A6, c6, rfl⟩ := own_slice hinv.2.2.2.1
        have HI4 := Aside0.mk hinv
        clear hinv
        have hw34 : w3.heap.size ≤ w4.heap.size := by have := HI4.out.2.2.2.2.2.2.size; simp at this; omega
        have b4 : Below w.heap.size (w3.alloc (.cells #[.int .u8 10] 5 (1, 2))) w4 := push_below HI4.out hw0 (fun b hb => own_base HL3.out.2 b hb) (by simp; omega)
        have HB4 := Aside0.mk ((HB3.out.trans ((Below.refl _ w3).alloc (by omega) _)).trans b4)
        have hm4 := (HBM.out w4).size
        have b4m : Below w.heap.size w4 (Lib.bytesWorld w4 5 more) := (HBM.out w4).to_below (by omega) (fun i h => h.elim)
        have HB4M := Aside0.mk (HB4.out.trans b4m)
        clear b4 b4m
        go_wp2_with fail
        refine (push_to M HE3.out (some ⟨w4.heap.size, 0, none⟩) _ w1.heap.size tvk2 w.heap.size _ (by omega) ⟨(HBM.out w4).blk HI4.out.1.1 id, (HBM.out w4).own HI4.out.1.2 (fun _ _ => id)⟩ HI4.out.2.1 (.inl rfl) HT80.out (HRM.out w4) (fun h0 ad e => by cases e; exact ⟨by have := blk_lt HI4.out.1.1; simp only [ne_eq]; omega, fun e2 => by have := own_lt HI4.out.1.2 _ e2; simp at this⟩) (by omega)).mono ?_
        rintro e w5 ⟨kv3, ov3, tvk3, rfl, hinv⟩
        obtain ⟨A7, c7, rfl⟩ := own_slice hinv.2.2.1
        obtain ⟨A8, c8, rfl⟩ := own_slice hinv.2.2.2.1
        have HI5 := Aside0.mk hinv
        have b5 := push_below HI5.out hw0 (fun b hb => own_base HI4.out.1.2 b hb) (by omega)
        have HB5 := Aside0.mk (HB4M.out.trans b5)
        have hm5 := (HBM.out w5).size
        have hw45 : w4.heap.size ≤ w5.heap.size := by have := HI5.out.2.2.2.2.2.2.size; omega
        have b5m : Below w.heap.size w5 (Lib.bytesWorld w5 5 more) := (HBM.out w5).to_below (by omega) (fun i h => h.elim)
        have HB5M := Aside0.mk (HB5.out.trans b5m)
        clear hinv b5 b5m
        go_wp2_with fail
        refine (parts_to M HE3p.out (some ⟨w5.heap.size, 0, none⟩) _ _ (HRM.out w5) (grownCap_ge _ _ _ _) (by omega)).mono ?_
        rintro e w6 ⟨kp, op, rfl, hkp, hop, hfp⟩
        obtain ⟨A9, c9, rfl⟩ := own_slice hkp
        obtain ⟨A10, c10, rfl⟩ := own_slice hop
        have hF56 : Fr nope w5 w6 := (HBM.out w5).trans hfp (fun _ _ h => h)
        have HB6 := Aside0.mk (HB5M.out.trans (hfp.to_below (by omega) (fun i h => h.elim)))
        have hov := hF56.own (push_texts HI5.out ⟨(HBM.out w4).blk HI4.out.1.1 id, (HBM.out w4).own HI4.out.1.2 (fun _ _ => id)⟩ ((HBM.out w4).own HI4.out.2.2.2.1 (fun _ _ => id))) (fun _ _ => id)
        have hcv7 := own_string (P := Try.prog) (src := 34) (dst := 9) Try.underlying34 Try.underlying5 Try.underlying9 (hF56.own HI5.out.2.2.1 (fun _ _ => id))
        have hcv9 := own_string (P := Try.prog) (src := 34) (dst := 9) Try.underlying34 Try.underlying5 Try.underlying9 hkp
        have HR8 := Aside0.mk (own_readsOf (d := ByteArray.empty) (hF56.own HI5.out.2.2.2.1 (fun _ _ => id)))
        have HR10b := Aside0.mk (own_readsOf (d := ByteArray.empty) hop)
        obtain ⟨ad6, e6, hc6⟩ := (own_readsOf (d := ByteArray.empty) hov).2.2 (by simp)
        obtain rfl := e6
        have hc60 := hc6 0 (by simp)
        rw [show ad6.add 0 = ad6 from by simp [Addr.add]] at hc60
        simp only [List.getD_cons_zero] at hc60
        have HB7 : Aside0 (∀ w7, Fr nope w6 w7 → Below w.heap.size w w7) := ⟨fun w7 hf => HB6.out.trans (hf.to_below (by have := hF56.size; omega) (fun i h => h.elim))⟩
        clear hc6 hov hkp hop hfp hF56
        by_cases h80 : 80 < k
        · have hs0 : (⟨#[]⟩ : ByteArray) = s0 := by have h := HS0.out; rwa [if_pos h80] at h
          have f1 : (s0.toList == (rep k).toList) = false := by
            rw [beq_eq_false_iff_ne, ← hs0, rep_toList, ByteArray.toList_eq]
            intro h
            have := congrArg List.length h
            simp at this
            omega
          have f2 : s0.toList.isEmpty = true := by rw [← hs0, ByteArray.toList_eq]; rfl
          have f3 : decide (76 + (m : Int) ≤ 80) = false := by simp; omega
          have f4 : decide (80 < 76 + (m : Int)) = true := by simp; omega
          clear hs0
          go_wp2_with (go_at_call 17; refine (same_calls o3 _ _ _ _ _ HR8.out HR10b.out (by omega)).mono ?_; rintro e w7 ⟨rfl, hf7⟩; have HF7 := Aside0.mk hf7; clear hf7)
          go_ret
          exact ⟨rfl, HB7.out _ HF7.out⟩
        · have hs0 : rep k = s0 := by have h := HS0.out; rwa [if_neg h80] at h
          have f1 : (s0.toList == (rep k).toList) = true := by rw [hs0]; exact beq_self_eq_true _
          have f2 : s0.toList.isEmpty = false := by
            rw [← hs0, rep_toList]
            simp
            omega
          have f3 : decide (76 + (m : Int) ≤ 80) = true := by simp; omega
          have f4 : decide (80 < 76 + (m : Int)) = false := by simp; omega
          clear hs0
          go_wp2_with (go_at_call 17; refine (same_calls o3 _ _ _ _ _ HR8.out HR10b.out (by omega)).mono ?_; rintro e w7 ⟨rfl, hf7⟩; have HF7 := Aside0.mk hf7; clear hf7)
          go_ret
          exact ⟨rfl, HB7.out _ HF7.out⟩

theorem LexLong_walk (W : World) (n : Int) (_hn : (Lit.int .i64 n).wf = true) (more : ByteArray) (hm : more.size ≤ 140737488351232) :
    Calls Try.prog 7 #[.int .i64 n, .string more] W fun e w' => e = .returned (.bool true) ∧ Below W.heap.size W w' := long_calls n more W hm
end Go.Proofs.Ytajhahgaeihfaaa.LexW
