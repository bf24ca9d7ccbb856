/- kibitzertop: WholeInput, the walk. -/
import Derived.Test.YtfkamoiamebngaaGreatDoorM26
import Derived.Deep.DeepCutAuto
import Derived.Deep.RegionWith
import Derived.BigRegion
import Derived.Deep.RegionLaw
import Derived.Test.YtfkamoiamebngaaGreatDoorM22
import Derived.SevenTiedAt
import Derived.LaidMore
import Derived.Handed
import Derived.WalkKit
import Derived.ProofKit
import Derived.OpenShut
import Derived.ShutString
import Derived.ChangeOld
import Derived.Below
import Derived.SizedLaws
namespace Go.Proofs.YtfkamoiamebngaaGreatDoor.BroW
open Go.RowKit Go.Proofs.YtfkamoiamebngaaGreatDoorW.PrintWords Go.Proofs.YtfkamoiamebngaaGreatDoorW.PrintMore Go.Proofs.YtfkamoiamebngaaGreatDoor.Fr Go.Proofs.YtfkamoiamebngaaGreatDoor.ScrW Go.Proofs.YtfkamoiamebngaaGreatDoor.ScrP Go.Proofs.YtfkamoiamebngaaGreatDoor.Mod
set_option linter.unusedVariables false
set_option linter.unusedSimpArgs false

theorem and3 (n : Int) : bits .and .i64 n 3 = n % 4 := by
  have h7 : (BitVec.ofInt 64 3).toNat = 2 ^ 2 - 1 := by decide
  have key : (BitVec.ofInt 64 n &&& BitVec.ofInt 64 3).toNat = (n % ((2 ^ 64 : Nat) : Int)).toNat % 2 ^ 2 := by
    rw [BitVec.toNat_and, BitVec.toNat_ofInt, h7, Nat.and_two_pow_sub_one_eq_mod]
  show IntKind.i64.wrap ((BitVec.ofInt 64 n &&& BitVec.ofInt 64 3).toNat : Nat) = n % 4
  rw [key, IntKind.wrap_i64]
  omega
theorem and7i (n : Int) : bits .and .i64 n 7 = n % 8 := by
  have h7 : (BitVec.ofInt 64 7).toNat = 2 ^ 3 - 1 := by decide
  have key : (BitVec.ofInt 64 n &&& BitVec.ofInt 64 7).toNat = (n % ((2 ^ 64 : Nat) : Int)).toNat % 2 ^ 3 := by
    rw [BitVec.toNat_and, BitVec.toNat_ofInt, h7, Nat.and_two_pow_sub_one_eq_mod]
  show IntKind.i64.wrap ((BitVec.ofInt 64 n &&& BitVec.ofInt 64 7).toNat : Nat) = n % 8
  rw [key, IntKind.wrap_i64]
  omega
theorem and31 (n : Int) : bits .and .i64 n 31 = n % 32 := by
  have h7 : (BitVec.ofInt 64 31).toNat = 2 ^ 5 - 1 := by decide
  have key : (BitVec.ofInt 64 n &&& BitVec.ofInt 64 31).toNat = (n % ((2 ^ 64 : Nat) : Int)).toNat % 2 ^ 5 := by
    rw [BitVec.toNat_and, BitVec.toNat_ofInt, h7, Nat.and_two_pow_sub_one_eq_mod]
  show IntKind.i64.wrap ((BitVec.ofInt 64 n &&& BitVec.ofInt 64 31).toNat : Nat) = n % 32
  rw [key, IntKind.wrap_i64]
  omega
def turnOf (j : Nat) (t : Int) (s : ByteArray) : Tn :=
  if t / 4 % 8 = 0 then .floor (1 + t % 4 % 3) else if t / 4 % 8 = 1 then .drop (1 + t % 4 % 3) else if t / 4 % 8 = 2 then .drain (t / 32 % 32) else if t / 4 % 8 = 3 then .tick else .keys (1 + t % 4 % 3) j s
def TL (T : List Int) (X : List ByteArray) (i : Nat) : List Tn := (List.range i).map fun j => turnOf j (T.getD j 0) (X.getD j ⟨#[]⟩)
theorem TL_succ (T : List Int) (X : List ByteArray) (i : Nat) : TL T X (i + 1) = TL T X i ++ [turnOf i (T.getD i 0) (X.getD i ⟨#[]⟩)] := by
  unfold TL; rw [List.range_succ]; simp
theorem TL_len (T : List Int) (X : List ByteArray) (i : Nat) : (TL T X i).length = i := by simp [TL]
theorem evTs_snoc (L : List Tn) (t : Tn) : evTs (L ++ [t]) = evTs L ++ evT t := by simp [evTs]
theorem kTs_snoc (L : List Tn) (t : Tn) : kTs (L ++ [t]) = kTs L ++ kT t := by simp [kTs]
/-- the kinds that are laid: a beginning of all kinds; behind it all are 0 -/
def KP (K F : List Int) : Prop := ∀ j, F.getD j 0 = if j < K.length then K.getD j 0 else 0
theorem KP.zero {K F : List Int} (h : KP K F) : KP K (F ++ [0]) := fun j => by
  rw [← h j]
  by_cases e : j < F.length
  · rw [getD_left e]
  · have h0 : F.getD j 0 = 0 := by simp [List.getD_eq_getElem?_getD, List.getElem?_eq_none (show F.length ≤ j by omega)]
    rw [getD_right (by omega), h0]
    cases j - F.length with
    | zero => rfl
    | succ x => rfl
theorem KP.snoc0 {K F : List Int} (h : KP K F) : KP (K ++ [0]) F := fun j => by
  rw [h j, List.length_append, List.length_singleton]
  by_cases e : j < K.length
  · rw [if_pos e, if_pos (by omega), getD_left e]
  · rw [if_neg e]
    by_cases e2 : j < K.length + 1
    · rw [if_pos e2, getD_right (by omega), show j - K.length = 0 by omega]; rfl
    · rw [if_neg e2]
theorem KP.set {K F : List Int} {q : Int} {n : Nat} (h : KP K F) (hF : F.length = n) (hK : K.length = n + 1) : KP (K.set n q) (F ++ [q, 0, 0]) := fun j => by
  rw [List.length_set, hK]
  by_cases e : j < n
  · have h1 := h j
    rw [if_pos (by omega)] at h1
    rw [getD_left (by omega), if_pos (by omega), h1]
    simp only [List.getD_eq_getElem?_getD]
    rw [List.getElem?_set_ne (by omega)]
  · rw [getD_right (by omega), hF]
    by_cases e2 : j = n
    · subst e2
      rw [if_pos (by omega), Nat.sub_self]
      simp only [List.getD_eq_getElem?_getD]
      rw [List.getElem?_set_self (by omega)]
      rfl
    · rw [if_neg (by omega)]
      obtain ⟨x, hx⟩ : ∃ x, j - n = x + 1 := ⟨j - n - 1, by omega⟩
      rw [hx]
      match x with
      | 0 => rfl
      | 1 => rfl
      | x + 2 => rfl
def E0 (T : List Int) (X : List ByteArray) (i : Nat) : List Ev := preE ++ evTs (TL T X i)
def F0 (T : List Int) (X : List ByteArray) (i : Nat) : List Int := [0, 0, 0, 0, 0, 0] ++ kTs (TL T X i)
theorem E0_succ (T : List Int) (X : List ByteArray) (i : Nat) : E0 T X (i + 1) = E0 T X i ++ evT (turnOf i (T.getD i 0) (X.getD i ⟨#[]⟩)) := by
  unfold E0; rw [TL_succ, evTs_snoc, List.append_assoc]
theorem F0_succ (T : List Int) (X : List ByteArray) (i : Nat) : F0 T X (i + 1) = F0 T X i ++ kT (turnOf i (T.getD i 0) (X.getD i ⟨#[]⟩)) := by
  unfold F0; rw [TL_succ, kTs_snoc, List.append_assoc]
theorem kT_len (t : Tn) : (kT t).length = (evT t).length := by cases t <;> rfl
theorem evT_len (t : Tn) : (evT t).length ≤ 3 := by cases t <;> simp [evT]
theorem F0_len (T : List Int) (X : List ByteArray) : ∀ i, (F0 T X i).length = (E0 T X i).length
  | 0 => rfl
  | i + 1 => by rw [F0_succ, E0_succ, List.length_append, List.length_append, F0_len T X i, kT_len]
theorem E0_le (T : List Int) (X : List ByteArray) : ∀ i, (E0 T X i).length ≤ 6 + 3 * i
  | 0 => Nat.le_refl 6
  | i + 1 => by rw [E0_succ, List.length_append]; have := E0_le T X i; have := evT_len (turnOf i (T.getD i 0) (X.getD i ⟨#[]⟩)); omega
theorem okTL_succ {T : List Int} {X : List ByteArray} {i : Nat} (h : ∀ t ∈ TL T X i, okT t) {u : Tn} (hu : turnOf i (T.getD i 0) (X.getD i ⟨#[]⟩) = u) (h2 : okT u) : ∀ t ∈ TL T X (i + 1), okT t := by
  rw [TL_succ, hu]
  intro t ht
  rcases List.mem_append.1 ht with ht | ht
  · exact h t ht
  · rw [List.mem_singleton.1 ht]; exact h2
theorem info3 : (Tryz.prog.info? 3).map (fun i => (i.zero, i.size, i.bytes)) = some (some (.int .i64 0), 1, 8) := by kernel_rfl
/-- append of a row of events onto another: at a step of a region that draws its order -/
theorem step_evsI {ops : Array Oper} {Q : Exit → Act → World → Prop} {K : Act → World → Prop} {E : Prop} {a : Act} {o : Oper} {W : World} (hgd : o.guard = none) (s x : Operand) (ho : o.op = .call { callee := .builtin .append, args := #[s, x], argTypes := #[27, 27] })
    (base b2 : Nat) (v : Value) (L M : List Ev) (A : Option Addr) (m c k : Nat) (hm : M.length = m) (hk : (L ++ M).length = k) (hpos : 0 < m) (hs : a.eval s = v) (hx : a.eval x = .slice A m c)
    (hown : OwnsEv base W v L) (hM : OwnsEv b2 W (.slice A m c) M) (hlen : L.length + m ≤ 100000) (hbase : base ≤ W.heap.size)
    (h : ∀ A1 c1 w1, OwnsEv base w1 (.slice A1 k c1) (L ++ M) → Fr (rowOf v) W w1 → K (a.put o.dst (.slice A1 k c1)) w1) :
    if Region.wanted o (yielded ops a.tmps) = true then Oper.wp Tryz.prog o a W K Q else E := by
  subst hm hk
  have hw : Region.wanted o (yielded ops a.tmps) = true := by simp [Region.wanted, hgd]
  rw [if_pos hw]
  obtain ⟨i0, hi, hzz⟩ := Option.map_eq_some_iff.1 infoEv4
  simp only [Prod.mk.injEq] at hzz
  obtain ⟨hz0, hz1, hz2⟩ := hzz
  obtain ⟨g, rfl⟩ : ∃ g, A = some ⟨g, 0, none⟩ := by
    rcases hM.2 with ⟨_, h0⟩ | ⟨g, cap, cur, hv, _⟩
    · omega
    · injection hv with e1 _ _; exact ⟨g, e1⟩
  have hc := World.ownsRow.cells hM (g := g) rfl
  obtain ⟨v1, w1, hr1, h2, h3, _, h5⟩ := run_append_own_at (P := Tryz.prog) W base 27 o.type 33 i0 _ 4 40 Tryz.underlying27 hi hz0 hz1 hz2 rfl (by decide) v L.length (evs L) hown ⟨g, 0, none⟩ M.length c (evs M) (evs_len M) (fun j u hu => by
    have hadd : (⟨g, 0, none⟩ : Addr).add j = ⟨g, j, none⟩ := by unfold Addr.add; split <;> simp_all
    have h0 := hc j u hu
    exact h0) (evs_one M) (by unfold maxLen; omega) (by omega) hbase
  have h2' : OwnsEv base w1 v1 (L ++ M) := by
    unfold OwnsEv
    rw [List.length_append, show evs (L ++ M) = evs L ++ evs M by simp [evs]]
    exact h2
  obtain ⟨A1, c1, rfl⟩ := own_slice h2'
  unfold Oper.wp execOp
  simp only [ho, resolve, invoke, builtin, Sem.run_bind, Sem.run_pure, Result.andThen_ok, List.map_toArray, List.map_cons, List.map_nil, hs, hx, hr1]
  exact h A1 c1 w1 h2' ((Fr.refl (rowOf v) W).grown h3 (fun _ hb _ => hb))
/-- how much is given and wanted behind so many places -/
def flatN (L : List (List Int)) (j : Nat) : List Int := (L.take j).flatten
theorem flatN_succ {L : List (List Int)} {j : Nat} (h : j < L.length) : flatN L (j + 1) = flatN L j ++ L.getD j [] := by
  unfold flatN
  rw [List.take_succ_eq_append_getElem h, List.flatten_append]
  simp [List.getD_eq_getElem?_getD, List.getElem?_eq_getElem h]
theorem flatN_all (L : List (List Int)) {j : Nat} (h : L.length ≤ j) : flatN L j = L.flatten := by unfold flatN; rw [List.take_of_length_le h]
theorem flat_le {L : List (List Int)} (h : ∀ x ∈ L, x.length ≤ 60) : L.flatten.length ≤ 60 * L.length := by
  induction L with
  | nil => simp
  | cons a L ih =>
    have h1 := h a (by simp)
    have h2 := ih (fun x hx => h x (by simp [hx]))
    simp only [List.flatten_cons, List.length_append, List.length_cons]
    omega
theorem flatN_le (L : List (List Int)) (j : Nat) : (flatN L j).length ≤ L.flatten.length := by
  unfold flatN
  have h : L.flatten = (L.take j).flatten ++ (L.drop j).flatten := by rw [← List.flatten_append, List.take_append_drop]
  rw [h, List.length_append]
  omega
theorem str_app (a b : List Int) : strOfNums a ++ strOfNums b = strOfNums (a ++ b) := by
  apply bytes_ext
  rw [ByteArray.data_append, Array.toList_append]
  simp [strOfNums]
theorem Chk.le {E : List Ev} {K : List Int} {R : List (Int × List Int)} {W : List (List Int)} (h : Chk E K R W) : ∀ x ∈ W, x.length ≤ 60 := by
  obtain ⟨h1, h2, h3, h4⟩ := h
  intro x hx
  obtain ⟨j, hj, rfl⟩ := List.mem_iff_getElem.1 hx
  have he : W.getD j [] = W[j] := by simp [List.getD_eq_getElem?_getD, List.getElem?_eq_getElem hj]
  obtain ⟨a, b⟩ := h4 j (by omega)
  by_cases hk : K.getD j 0 = 0
  · rw [← he, a hk]; exact Nat.zero_le _
  · obtain ⟨_, _, m, id, _, _, _, hm, _, hc⟩ := b hk
    rcases hc with ⟨_, hc, _⟩ | ⟨_, _, _, _, _, hc⟩
    · rw [← he, hc, bytesOf_length]; exact hm
    · rw [← he, hc]; exact Nat.zero_le _
theorem gOf_len (E : List Ev) (R : List (Int × List Int)) (h : R.length = E.length) : (gOf E R).length = E.length := by
  unfold gOf
  rw [List.length_map, List.length_zip]
  omega
theorem gOf_at {E : List Ev} {R : List (Int × List Int)} (h : R.length = E.length) {j : Nat} (hj : j < E.length) : (gOf E R).getD j [] = if (E.getD j ev0).k = 4 then (R.getD j (0, [])).2 else [] := by
  unfold gOf
  have h1 : j < (E.zip R).length := by rw [List.length_zip]; omega
  rw [List.getD_eq_getElem?_getD, List.getElem?_map, List.getElem?_eq_getElem h1]
  simp [List.getElem_zip, List.getD_eq_getElem?_getD, List.getElem?_eq_getElem, hj, show j < R.length by omega]
/-- the message of a frame's bytes, whole -/
theorem ofFrame_calls (m : Mg) (hg : mgB m = true) {Ab : Option Addr} {cb base : Nat} {W : World} (ho : W.ownsRow base 5 1 (.slice Ab (mBody m).length cb) (mBody m).length (nums .u8 (mBody m))) :
    Calls Tryz.prog 16 #[.agg #[.int .u8 m.k, .slice Ab (mBody m).length cb]] W fun e w' => e = .returned (.tuple #[.agg #[.int .i64 m.k, .int .i64 m.a, .int .i64 m.b, .string m.t], .bool true]) ∧ Fr nope W w' := by
  have hf := mgB_facts hg
  have hb : ((mBody m).length : Int) = 6 * shN m.k + m.t.size := Mod.mBody_len m
  have hsb := sh_bound m.k
  have hl : (mBody m).length ≤ 2048 := by
    have h1 := hf.2.1
    have h2 := shN_b m.k
    obtain ⟨x, hx⟩ : ∃ x, (mBody m).length = x := ⟨_, rfl⟩
    rw [hx] at hb ⊢
    omega
  have h := mof_calls m.k (mBody m) Ab cb W (by omega) hl (own_caps ho).1 (own_caps ho).2 (own_readsInt ho) (isB_mBody m)
  unfold MOf mgV at h
  rw [mOf_mB hg] at h
  exact h
theorem msgs_empty (W : World) : Calls Tryz.prog 18 #[.slice (some ⟨W.heap.size, 0, none⟩) (⟨#[]⟩ : ByteArray).size (grownCap W (⟨#[]⟩ : ByteArray).size 0 5)] (Lib.bytesWorld W 5 ⟨#[]⟩) fun e w' => ∃ A c, e = .returned (.tuple #[.slice A 0 c, .bool true]) ∧ Fr nope (Lib.bytesWorld W 5 ⟨#[]⟩) w' := by
  refine (msgs_calls ⟨#[]⟩ W (by decide)).mono ?_
  rintro e w' ⟨v, rfl, q1, q2⟩
  have q1' : w'.ownsRow (Lib.bytesWorld W 5 ⟨#[]⟩).heap.size 39 4 v 0 (mgs []) := q1
  obtain ⟨A1, c1, rfl⟩ := own_slice q1'
  exact ⟨A1, c1, rfl, q2⟩
theorem msgs_rej {a why : Int} (hg : mgB (rejM a why) = true) {s : ByteArray} (hs : s = strOfNums (mB (rejM a why))) (W : World) : Calls Tryz.prog 18 #[.slice (some ⟨W.heap.size, 0, none⟩) s.size (grownCap W s.size 0 5)] (Lib.bytesWorld W 5 s) fun e w' => ∃ g c, e = .returned (.tuple #[.slice (some ⟨g, 0, none⟩) 1 c, .bool true]) ∧ Fr nope (Lib.bytesWorld W 5 s) w' ∧ w'.cell? ⟨g, 0, none⟩ = some (.int .i64 8) ∧ w'.cell? ⟨g, 1, none⟩ = some (.int .i64 a) ∧ w'.cell? ⟨g, 2, none⟩ = some (.int .i64 why) ∧ w'.cell? ⟨g, 3, none⟩ = some (.string ⟨#[]⟩) := by
  have hl := mB_len (rejM a why)
  have hq := msgs_calls s W (by rw [hs, strOf_size]; omega)
  rw [hs, bytes_str (isB_mB hg), msgs_one hg] at hq
  rw [hs]
  refine hq.mono ?_
  rintro e w' ⟨v, rfl, q1, q2⟩
  have q1' : w'.ownsRow (Lib.bytesWorld W 5 (strOfNums (mB (rejM a why)))).heap.size 39 4 v 1 (mgs [rejM a why]) := q1
  obtain ⟨A1, c1, rfl⟩ := own_slice q1'
  obtain ⟨g, rfl⟩ := own_some q1' (by decide)
  exact ⟨g, c1, rfl, q2, own_cellAt q1' 0 _ rfl, own_cellAt q1' 1 _ rfl, own_cellAt q1' 2 _ rfl, own_cellAt q1' 3 _ rfl⟩
def cfIV (c : Cf) : Array Value := #[.int .i64 c.a0, .int .i64 c.a1, .int .i64 4000, .int .i64 c.a3, .int .i64 c.a4, .int .i64 c.a5, .int .i64 0, .int .i64 c.a7]
set_option maxRecDepth 100000 in
set_option maxHeartbeats 32000000 in
def inputUp : PSigma fun G : Prop => Aside0 G → ∀ (c : Cf) (T : List Int) (X : List ByteArray) (A1 A2 : Option Addr) (cp1 cp2 : Nat) (w : World) (hlib : LibOK w) (hr1 : ReadsInt w .i64 A1 T.length T) (hr2 : ReadsOf Value.string ByteArray.empty w A2 X.length X), Calls Tryz.prog 3 #[.agg #[.int .i64 c.a0, .int .i64 c.a1, .int .i64 c.a2, .int .i64 c.a3, .int .i64 c.a4, .int .i64 c.a5, .int .i64 c.a6, .int .i64 c.a7], .slice A1 T.length cp1, .slice A2 X.length cp2] w fun e w' => e = .returned (.bool true) ∧ Fr nope w w' := by
  apply PSigma.mk
  case snd =>
  intro hG c T X A1 A2 cp1 cp2 w hlib hr1 hr2
  have HLIB := Aside0.mk hlib
  have HR1 := Aside0.mk hr1
  have HR2 := Aside0.mk hr2
  have HC : Aside0 ((w.alloc (.cells (cfCells c) 23)).heap[w.heap.size]? = some (.cells (cfCells c) 23 (0, 0))) := ⟨blk_new _ _⟩
  have HF0 : Aside0 (Fr nope w (w.alloc (.cells (cfCells c) 23))) := ⟨(Fr.refl _ _).alloc _⟩
  clear hlib hr1 hr2
  go_enter Tryz.func3, Tryz.ntmps3
  go_wp2_with (first | (go_at_call 9; refine (alive_calls _ (HLIB.out.fr HF0.out (fun _ _ h => h))).mono ?_; rintro e1 w1 ⟨rfl, hf1⟩; have HF1 : Aside0 (Fr nope (w.alloc (.cells (cfCells c) 23)) w1) := ⟨hf1⟩; obtain ⟨c0, c1, c2, c3, c4, c5, c6, c7⟩ := cells8 (hf1.blk HC.out (fun h => h)); clear hf1))
  have HRT : Aside0 (∀ W, Calls Tryz.prog 10 #[.agg #[.int .i64 c.a0, .int .i64 c.a1, .int .i64 c.a2, .int .i64 c.a3, .int .i64 c.a4, .int .i64 c.a5, .int .i64 c.a6, .int .i64 c.a7]] W fun e w' => e = .returned (.bool (cfB c)) ∧ Below W.heap.size W w') := ⟨fun W => confRight_calls c W⟩
  cases hcb : cfB c
  · rw [hcb] at HRT
    clear hcb
    go_wp2_with (first | (go_at_call 10; (with_reducible refine (HRT.out _).mono ?_); rintro e3 w3 ⟨rfl, hf3⟩; have HF3 := Aside0.mk (HF1.out.trans (Fr.of_below (S := nope) hf3) (fun _ _ h => h)); clear hf3))
    go_returns
    exact ⟨rfl, HF0.out.trans HF3.out (fun _ _ h => h)⟩
  rw [hcb] at HRT
  have HCB := Aside0.mk hcb
  clear hcb
  by_cases hT : T.length ≤ 40
  case neg =>
    have hT1 : (40 : Int) < (T.length : Int) := by omega
    clear hT
    go_wp2_with (first | (go_at_call 10; (with_reducible refine (HRT.out _).mono ?_); rintro e3 w3 ⟨rfl, hf3⟩; have HF3 := Aside0.mk (HF1.out.trans (Fr.of_below (S := nope) hf3) (fun _ _ h => h)); clear hf3))
    go_returns
    exact ⟨rfl, HF0.out.trans HF3.out (fun _ _ h => h)⟩
  have hT1 : ¬ (40 : Int) < (T.length : Int) := by omega
  by_cases hX : T.length ≤ X.length
  case neg =>
    have hX1 : (X.length : Int) < (T.length : Int) := by omega
    clear hX hT
    go_wp2_with (first | (go_at_call 10; (with_reducible refine (HRT.out _).mono ?_); rintro e3 w3 ⟨rfl, hf3⟩; have HF3 := Aside0.mk (HF1.out.trans (Fr.of_below (S := nope) hf3) (fun _ _ h => h)); clear hf3))
    go_returns
    exact ⟨rfl, HF0.out.trans HF3.out (fun _ _ h => h)⟩
  have hX1 : ¬ (X.length : Int) < (T.length : Int) := by omega
  go_wp2_with (first | (go_at_call 10; (with_reducible refine (HRT.out _).mono ?_); rintro e3 w3 ⟨rfl, hf3⟩; have HF3 := Aside0.mk (HF1.out.trans (Fr.of_below (S := nope) hf3) (fun _ _ h => h)); clear hf3 c0 c1 c2 c3 c4 c5 c6 c7; have hB3 := HF3.out.blk HC.out (fun h => h); obtain ⟨c0, c1, c2, c3, c4, c5, c6, c7⟩ := cells8 hB3; have q2 := blk_frozen hB3 2; have q6 := blk_frozen hB3 6; have hbl := blk_lt hB3; have HB3 := Aside0.mk hB3; clear hB3) | (go_at_call 11; (with_reducible refine (comes_calls 1 true 0 _).mono ?_); rintro e4 w4 ⟨v4, rfl, ho4, hf4⟩; obtain ⟨A4, c4', rfl⟩ := own_slice ho4; have HO4 := Aside0.mk ho4; have HF4 := Aside0.mk hf4; have hs4 := hf4.size; rw [size_set, size_set] at hs4; have HS4 := Aside0.mk hs4; clear ho4 hf4 hs4) | (go_at_call 11; (with_reducible refine (comes_calls 2 true 0 _).mono ?_); rintro e5 w5 ⟨v5, rfl, ho5, hf5⟩; obtain ⟨A5, c5', rfl⟩ := own_slice ho5; have HO5 := Aside0.mk ho5; have HO45 := Aside0.mk (hf5.own HO4.out (fun _ _ h => h)); have HF5 := Aside0.mk (HF4.out.trans hf5 (fun _ _ h => h)); clear ho5 hf5) | ((with_reducible refine gate_builtin (b := .append) (xs := #[.tmp 46, .tmp 47]) rfl ?_); at_builtin; refine app_evs rfl (.tmp 46) (.tmp 47) rfl w3.heap.size w4.heap.size (.slice A4 2 c4') (comesL 1 true 0) (comesL 2 true 0) A5 2 c5' 4 rfl rfl (by decide) rfl rfl (by have h := HO45.out; rw [size_set, size_set] at h; exact h) HO5.out (by decide) (by have h := HF5.out.size; rw [size_set, size_set] at h; exact h) ?_; intro A6 c6' w6 ho6 hf6; have HO6 := Aside0.mk ho6; have HF6 := Aside0.mk (HF5.out.trans hf6 (fun i hi hs => by have h0 := HO45.out; have h1 := (own_old h0 hs).1; omega)); clear ho6 hf6) | (go_at_call 11; (with_reducible refine (comes_calls 3 false 0 _).mono ?_); rintro e7 w7 ⟨v7, rfl, ho7, hf7⟩; obtain ⟨A7p, c7', rfl⟩ := own_slice ho7; have HO7 := Aside0.mk ho7; have HO67 := Aside0.mk (hf7.own HO6.out (fun _ _ h => h)); have HF7 := Aside0.mk (HF6.out.trans hf7 (fun _ _ h => h)); clear ho7 hf7) | ((with_reducible refine gate_builtin (b := .append) (xs := #[.tmp 48, .tmp 49]) rfl ?_); at_builtin; refine app_evs rfl (.tmp 48) (.tmp 49) rfl w3.heap.size w6.heap.size (.slice A6 4 c6') (comesL 1 true 0 ++ comesL 2 true 0) (comesL 3 false 0) A7p 2 c7' 6 rfl rfl (by decide) rfl rfl HO67.out HO7.out (by decide) (by have h := HF7.out.size; rw [size_set, size_set] at h; exact h) ?_; intro A8 c8' w8 ho8 hf8; have HO8 : Aside0 (OwnsEv w3.heap.size w8 (.slice A8 6 c8') preE) := ⟨ho8⟩; have HF8 := Aside0.mk (HF7.out.trans hf8 (fun i hi hs => by have h1 := (own_old HO67.out hs).1; rw [size_set, size_set] at hi; omega)); clear ho8 hf8))
  have hBI : ((w3.setCell ⟨w.heap.size, 6, none⟩ (.int .i64 0)).setCell ⟨w.heap.size, 2, none⟩ (.int .i64 4000)).heap[w.heap.size]? = some (.cells (cfCells (cfI c)) 23 (0, 0)) := blk_set (blk_set HB3.out 6 (.int .i64 0)) 2 (.int .i64 4000)
  have HBI := Aside0.mk (HF8.out.blk hBI (fun h => h))
  have HF8w : Aside0 (Fr nope w w8) := ⟨(((HF0.out.trans HF3.out (fun _ _ h => h)).set (fun h => absurd h (by omega)) 6 _).set (fun h => absurd h (by omega)) 2 _).trans HF8.out (fun _ _ h => h)⟩
  clear hBI c0 c1 c2 c3 c4 c5 c6 c7 q2 q6 hbl
  have HL0 : Aside0 (∀ W, Fr nope ((w3.setCell ⟨w.heap.size, 6, none⟩ (.int .i64 0)).setCell ⟨w.heap.size, 2, none⟩ (.int .i64 4000)) W → LibOK W) := ⟨fun W hF => (HLIB.out.fr (((HF0.out.trans HF3.out (fun _ _ h => h)).set (fun h => absurd h (by omega)) 6 _).set (fun h => absurd h (by omega)) 2 _) (fun _ _ h => h)).fr hF (fun _ _ h => h)⟩
  have HFS : Aside0 (Fr nope w ((w3.setCell ⟨w.heap.size, 6, none⟩ (.int .i64 0)).setCell ⟨w.heap.size, 2, none⟩ (.int .i64 4000))) := ⟨((HF0.out.trans HF3.out (fun _ _ h => h)).set (fun h => absurd h (by omega)) 6 _).set (fun h => absurd h (by omega)) 2 _⟩
  go_loopw [7, 8, 54] (fun v7 v8 v54 wr => ∃ (i n m g8 c7 c8 : Nat) (A7 : Option Addr) (K : List Int), v54 = .int .i64 i ∧ i ≤ T.length ∧ v7 = .slice A7 n c7 ∧ v8 = .slice (some ⟨g8, 0, none⟩) m c8 ∧ m ≤ n ∧ n ≤ 6 + 3 * i ∧ Aside0 ((E0 T X i).length = n) ∧ Aside0 (K.length = m) ∧ Aside0 (KP K (F0 T X i)) ∧ Aside0 (∀ t ∈ TL T X i, okT t) ∧ Aside0 (wr.ownsRow w3.heap.size 33 4 (.slice A7 n c7) n (evs (E0 T X i))) ∧ Aside0 (wr.ownsRow w3.heap.size 3 1 (.slice (some ⟨g8, 0, none⟩) m c8) m (nums .i64 K)) ∧ Aside0 (Fr nope ((w3.setCell ⟨w.heap.size, 6, none⟩ (.int .i64 0)).setCell ⟨w.heap.size, 2, none⟩ (.int .i64 4000)) wr)) (fun _ _ v54 _ => T.length - (intOf v54).toNat)
  case atStart => exact ⟨0, 6, 0, _, c8', 0, A8, [], rfl, Nat.zero_le _, rfl, rfl, Nat.zero_le _, by omega, ⟨rfl⟩, ⟨rfl⟩, ⟨fun j => by show ([0, 0, 0, 0, 0, 0] : List Int).getD j 0 = _; rcases j with _ | _ | _ | _ | _ | _ | j <;> simp⟩, ⟨fun t ht => by simp [TL] at ht⟩, ⟨by have h := HO8.out; exact h.alloc _⟩, ⟨by have h := World.ownsRow_made (e := 3) (size := 1) w8 #[] 0 (Nat.le_refl _) (by unfold maxLen; omega) rfl; have h2 := HF8.out.size; rw [size_set, size_set] at h2; exact own_base_le h h2⟩, ⟨HF8.out.alloc _⟩⟩
  case round =>
    obtain ⟨i, n, m, g8, c7, c8, A7, K, rfl, hi, rfl, rfl, hmn, hn6, HEL, HKL, HKP, HOK, HOE, HOKr, HF⟩ := hrel
    have HFw : Aside0 (Fr nope w wr) := ⟨HFS.out.trans HF.out (fun _ _ h => h)⟩
    have hws : w3.heap.size ≤ wr.heap.size := by have h := HF.out.size; rw [size_set, size_set] at h; exact h
    by_cases hlt : i < T.length
    · obtain ⟨t, ht⟩ : ∃ t, rd T (i : Int) = t := ⟨_, rfl⟩
      obtain ⟨ad1, hA1⟩ : ∃ ad, A1 = some ad := ⟨_, (HR1.out.2.2 (by omega)).choose_spec.1⟩
      subst hA1
      have ct := cell_zero (HFw.out.reads HR1.out (fun _ _ h => h)) hlt ht
      obtain ⟨s, hs⟩ : ∃ s, X.getD i ByteArray.empty = s := ⟨_, rfl⟩
      obtain ⟨ad2, hA2, hc2⟩ := (HFw.out.readsOf HR2.out (fun _ _ h => h)).2.2 (by omega)
      subst hA2
      have cs := hc2 i (by omega)
      rw [hs] at cs
      have htn : T.getD i 0 = t := by rw [← ht]; unfold rd; rw [Int.toNat_natCast]
      have hsn : X.getD i ⟨#[]⟩ = s := hs
      have HTS := Aside0.mk (And.intro htn hsn)
      have hid : wrap64 (1 + (bits .and .i64 t 3).tmod 3) = 1 + t % 4 % 3 := by
        rw [and3, Int.tmod_eq_emod_of_nonneg (by omega)]
        unfold wrap64
        omega
      have hii : (i : Int) < (T.length : Int) := by omega
      have hix : (i : Int) < (X.length : Int) := by omega
      have hi0 : (0 : Int) ≤ (i : Int) := by omega
      have l1 := World.block_lt_of_cell? _ _ ct
      have l2 := World.block_lt_of_cell? _ _ cs
      obtain ⟨q, hq⟩ : ∃ q, q = 1 + t % 4 % 3 := ⟨_, rfl⟩
      rw [← hq] at hid
      have hq3 : 1 ≤ q ∧ q ≤ 3 := by omega
      have HQ := Aside0.mk hq
      have HSX : Aside0 (X.getD i ByteArray.empty = s) := ⟨hs⟩
      clear ht hs hc2 htn hsn hq
      by_cases hs60 : s.size ≤ 60
      case neg =>
        have hs1 : (60 : Int) < (s.size : Int) := by omega
        clear hs60
        go_wp2
        go_returns
        exact ⟨rfl, HFw.out⟩
      have hs1 : ¬ (60 : Int) < (s.size : Int) := by omega
      have HS60 := Aside0.mk hs60
      clear hs60
      cases he : s.toList.isEmpty
      case true =>
        go_wp2
        go_returns
        exact ⟨rfl, HFw.out⟩
      have kcv : ∀ W, (convert 9 29 (.string s)).run Tryz.prog W = .ok (.slice (some ⟨W.heap.size, 0, none⟩) s.size (grownCap W s.size 0 5)) (Lib.bytesWorld W 5 s) := fun W => Lib.run_convert_string_bytes W 9 29 5 s Tryz.underlying9 Tryz.underlying29 Tryz.underlying5
      have HRB := Aside0.mk (bytes_reads wr 5 s (by have := HS60.out; omega))
      rename World => wL
      go_wp2
      go_loopw [82] (fun v82 wr => ∃ (j : Nat), v82 = .int .i64 j ∧ j ≤ s.size ∧ Aside0 (∀ q, q < j → (bytesOf s).getD q 0 ≠ 29) ∧ Aside0 (Fr nope (Lib.bytesWorld wL 5 s) wr)) (fun v82 _ => s.size - (intOf v82).toNat)
      case atStart => exact ⟨0, rfl, Nat.zero_le _, ⟨fun j hj => by omega⟩, ⟨Fr.refl _ _⟩⟩
      case round =>
        obtain ⟨j, rfl, hj, HN, HFq⟩ := hrel
        have hbl : (bytesOf s).length = s.size := bytesOf_length s
        by_cases hlt2 : j < s.size
        · obtain ⟨x, hx⟩ : ∃ x, rd (bytesOf s) (j : Int) = x := ⟨_, rfl⟩
          have hr := HFq.out.reads HRB.out (fun _ _ h => h)
          have hc := cell_zero hr (by omega) hx
          have hadd : (⟨wL.heap.size, 0, none⟩ : Addr).add j = ⟨wL.heap.size, j, none⟩ := by unfold Addr.add; split <;> simp_all
          rw [hadd] at hc
          have hjj : (j : Int) < (s.size : Int) := by omega
          have hj0 : (0 : Int) ≤ (j : Int) := by omega
          have hw2 : IntKind.i64.wrap ((j : Int) + 1) = ((j + 1 : Nat) : Int) := by rw [IntKind.wrap_i64]; have := HS60.out; push_cast; omega
          have hbk := World.block_lt_of_cell? _ _ hc
          have HX := Aside0.mk hx
          clear hr hadd hx hbl
          by_cases h29 : x = 29
          · subst h29
            go_wp2
            go_returns
            exact ⟨rfl, (fr_bytes HFw.out 5 s).trans HFq.out (fun _ _ h => h)⟩
          · have t1 : (x == 29) = false := by simpa using h29
            have HN1 : Aside0 (∀ q, q < j + 1 → (bytesOf s).getD q 0 ≠ 29) := ⟨fun q hq => by
              by_cases e : q = j
              · subst e
                have h := HX.out
                unfold rd at h
                rw [Int.toNat_natCast] at h
                rw [h]; exact h29
              · exact HN.out q (by omega)⟩
            clear h29
            go_wp2
            refine ⟨⟨j + 1, ?_, by omega, HN1, HFq⟩, ?_⟩
            · first | rfl | (push_cast; rfl)
            · simp only [intOf]; omega
        · have hjn : ¬ (j : Int) < (s.size : Int) := by omega
          have h29 : ∀ x ∈ bytesOf s, x ≠ 29 := fun x hx => by
            obtain ⟨q, hq, rfl⟩ := List.mem_iff_getElem.1 hx
            have h := HN.out q (by omega)
            rwa [List.getD_eq_getElem?_getD, List.getElem?_eq_getElem hq] at h
          have H29 := Aside0.mk h29
          have HFr : Aside0 (Fr nope ((w3.setCell ⟨w.heap.size, 6, none⟩ (.int .i64 0)).setCell ⟨w.heap.size, 2, none⟩ (.int .i64 4000)) wr) := ⟨(fr_bytes HF.out 5 s).trans HFq.out (fun _ _ h => h)⟩
          have HOE1 := Aside0.mk (HFq.out.own ((fr_bytes (Fr.refl nope wL) 5 s).own HOE.out (fun _ _ h => h)) (fun _ _ h => h))
          have HOK1 := Aside0.mk (HFq.out.own ((fr_bytes (Fr.refl nope wL) 5 s).own HOKr.out (fun _ _ h => h)) (fun _ _ h => h))
          have ct1 := fr_cell HFq.out (fr_cell (fr_bytes (Fr.refl nope wL) 5 s) ct)
          have cs1 := fr_cell HFq.out (fr_cell (fr_bytes (Fr.refl nope wL) 5 s) cs)
          have l11 := World.block_lt_of_cell? _ _ ct1
          have l12 := World.block_lt_of_cell? _ _ cs1
          clear hlt2 h29 hbl hj ct cs l1 l2 kcv
          obtain ⟨o, ho⟩ : ∃ o, bits .and .i64 (t / 4) 7 = o := ⟨_, rfl⟩
          have ho8 := and7i (t / 4)
          rw [ho] at ho8
          have hcase : o = 0 ∨ o = 1 ∨ o = 2 ∨ o = 3 ∨ 4 ≤ o := by omega
          have HO8' := Aside0.mk ho8
          clear ho8
          have hw54 : IntKind.i64.wrap ((i : Int) + 1) = ((i + 1 : Nat) : Int) := by rw [IntKind.wrap_i64]; push_cast; omega
          have hwn : IntKind.i64.wrap ((n : Int) + 1) = ((n + 1 : Nat) : Int) := by rw [IntKind.wrap_i64]; push_cast; omega
          rcases hcase with rfl | rfl | rfl | rfl | h4
          · have HTN : Aside0 (turnOf i t s = .floor q) := ⟨by unfold turnOf; rw [if_pos HO8'.out.symm]; rw [HQ.out]⟩
            have HCM : Aside0 (∀ W, Calls Tryz.prog 12 #[.int .i64 q, .string ⟨#[102, 108, 111, 111, 114]⟩] W (QV W (cmdE q floorT))) := ⟨fun W => command_calls q floorT W (by decide)⟩
            go_wp2_with (first | (go_at_call 12; (with_reducible refine (HCM.out _).mono ?_); unfold QV evV; rintro e9 w9 ⟨rfl, hf9⟩; have HF9 := Aside0.mk (HFr.out.trans hf9 (fun _ _ h => h)); have HE9 := Aside0.mk (hf9.own HOE1.out (fun _ _ h => h)); have HK9 := Aside0.mk (hf9.own HOK1.out (fun _ _ h => h)); clear hf9) | ((with_reducible refine gate_builtin (b := .append) (xs := #[.tmp 123, .tmp 126]) rfl ?_); at_builtin; refine app_lit rfl (.tmp 123) (.tmp 126) 27 33 (.agg #[.int .i64 0, .int .i64 0, .int .i64 0, .string ⟨#[]⟩]) 4 40 rfl Tryz.underlying27 infoEv4 (by decide) (by decide) w3.heap.size (.slice A7 n c7) n (evs (E0 T X i)) w9.heap.size 1 #[.int .i64 (cmdE q floorT).k, .int .i64 (cmdE q floorT).i, .int .i64 (cmdE q floorT).n, .string (cmdE q floorT).d] 33 rfl rfl ?aG rfl ?a1 ?aO ?aB ?aN (by decide) ?_; (case aG => exact blk_new w9 _); (case a1 => intro u hu; simp only [List.mem_cons, List.not_mem_nil, or_false] at hu; rcases hu with rfl | rfl | rfl | rfl <;> rfl); (case aO => exact HE9.out.alloc _); (case aB => exact (by have h := HF9.out.size; rw [size_set, size_set] at h; rw [World.size_alloc]; omega)); (case aN => exact (by omega)); intro v10 w10 ho10 hf10 hat10; obtain ⟨A10, c10, rfl⟩ := own_slice ho10; have HO10 := Aside0.mk ho10; have HNR := Aside0.mk (ne_types HE9.out HK9.out (by decide)); have HK10 := Aside0.mk (hf10.own (HK9.out.alloc (.cells #[.int .i64 (cmdE q floorT).k, .int .i64 (cmdE q floorT).i, .int .i64 (cmdE q floorT).n, .string (cmdE q floorT).d] 33)) (fun b hb hs => HNR.out b hs hb)); have HF10 := Aside0.mk ((HF9.out.alloc (.cells #[.int .i64 (cmdE q floorT).k, .int .i64 (cmdE q floorT).i, .int .i64 (cmdE q floorT).n, .string (cmdE q floorT).d] 33)).trans hf10 (fun i hi hs => by have h1 := (own_old HE9.out hs).1; rw [size_set, size_set] at hi; omega)); clear ho10 hf10 hat10))
            refine ⟨⟨i + 1, n + 1, m, g8, c10, c8, A10, K, ?_, by omega, rfl, rfl, by omega, by omega, ⟨by rw [E0_succ, HTS.out.1, HTS.out.2, HTN.out, List.length_append, HEL.out]; rfl⟩, HKL, ⟨by rw [F0_succ, HTS.out.1, HTS.out.2, HTN.out]; exact HKP.out.zero⟩, ⟨okTL_succ (u := .floor q) HOK.out (by rw [HTS.out.1, HTS.out.2, HTN.out]) hq3⟩, ⟨by rw [E0_succ, HTS.out.1, HTS.out.2, HTN.out]; show w10.ownsRow _ _ _ _ _ (evs (E0 T X i ++ [cmdE q floorT])); rw [evs_snoc]; exact HO10.out⟩, HK10, HF10⟩, ?_⟩
            · first | rfl | (push_cast; rfl)
            · simp only [intOf]; omega
          · have HTN : Aside0 (turnOf i t s = .drop q) := ⟨by unfold turnOf; rw [if_neg (by have := HO8'.out; omega), if_pos HO8'.out.symm]; rw [HQ.out]⟩
            have HCM : Aside0 (∀ W, Calls Tryz.prog 12 #[.int .i64 q, .string ⟨#[100, 114, 111, 112]⟩] W (QV W (cmdE q dropS))) := ⟨fun W => command_calls q dropS W (by decide)⟩
            go_wp2_with (first | (go_at_call 12; (with_reducible refine (HCM.out _).mono ?_); unfold QV evV; rintro e9 w9 ⟨rfl, hf9⟩; have HF9 := Aside0.mk (HFr.out.trans hf9 (fun _ _ h => h)); have HE9 := Aside0.mk (hf9.own HOE1.out (fun _ _ h => h)); have HK9 := Aside0.mk (hf9.own HOK1.out (fun _ _ h => h)); clear hf9) | ((with_reducible refine gate_builtin (b := .append) (xs := #[.tmp 130, .tmp 133]) rfl ?_); at_builtin; refine app_lit rfl (.tmp 130) (.tmp 133) 27 33 (.agg #[.int .i64 0, .int .i64 0, .int .i64 0, .string ⟨#[]⟩]) 4 40 rfl Tryz.underlying27 infoEv4 (by decide) (by decide) w3.heap.size (.slice A7 n c7) n (evs (E0 T X i)) w9.heap.size 1 #[.int .i64 (cmdE q dropS).k, .int .i64 (cmdE q dropS).i, .int .i64 (cmdE q dropS).n, .string (cmdE q dropS).d] 33 rfl rfl ?aG rfl ?a1 ?aO ?aB ?aN (by decide) ?_; (case aG => exact blk_new w9 _); (case a1 => intro u hu; simp only [List.mem_cons, List.not_mem_nil, or_false] at hu; rcases hu with rfl | rfl | rfl | rfl <;> rfl); (case aO => exact HE9.out.alloc _); (case aB => exact (by have h := HF9.out.size; rw [size_set, size_set] at h; rw [World.size_alloc]; omega)); (case aN => exact (by omega)); intro v10 w10 ho10 hf10 hat10; obtain ⟨A10, c10, rfl⟩ := own_slice ho10; have HO10 := Aside0.mk ho10; have HNR := Aside0.mk (ne_types HE9.out HK9.out (by decide)); have HK10 := Aside0.mk (hf10.own (HK9.out.alloc (.cells #[.int .i64 (cmdE q dropS).k, .int .i64 (cmdE q dropS).i, .int .i64 (cmdE q dropS).n, .string (cmdE q dropS).d] 33)) (fun b hb hs => HNR.out b hs hb)); have HF10 := Aside0.mk ((HF9.out.alloc (.cells #[.int .i64 (cmdE q dropS).k, .int .i64 (cmdE q dropS).i, .int .i64 (cmdE q dropS).n, .string (cmdE q dropS).d] 33)).trans hf10 (fun i hi hs => by have h1 := (own_old HE9.out hs).1; rw [size_set, size_set] at hi; omega)); clear ho10 hf10 hat10))
            refine ⟨⟨i + 1, n + 1, m, g8, c10, c8, A10, K, ?_, by omega, rfl, rfl, by omega, by omega, ⟨by rw [E0_succ, HTS.out.1, HTS.out.2, HTN.out, List.length_append, HEL.out]; rfl⟩, HKL, ⟨by rw [F0_succ, HTS.out.1, HTS.out.2, HTN.out]; exact HKP.out.zero⟩, ⟨okTL_succ (u := .drop q) HOK.out (by rw [HTS.out.1, HTS.out.2, HTN.out]) hq3⟩, ⟨by rw [E0_succ, HTS.out.1, HTS.out.2, HTN.out]; show w10.ownsRow _ _ _ _ _ (evs (E0 T X i ++ [cmdE q dropS])); rw [evs_snoc]; exact HO10.out⟩, HK10, HF10⟩, ?_⟩
            · first | rfl | (push_cast; rfl)
            · simp only [intOf]; omega
          · obtain ⟨d, hd⟩ : ∃ d, bits .and .i64 (t / 32) 31 = d := ⟨_, rfl⟩
            have hd31 := and31 (t / 32)
            rw [hd] at hd31
            have hdb : 0 ≤ d ∧ d ≤ 31 := by omega
            have HTN : Aside0 (turnOf i t s = .drain d) := ⟨by unfold turnOf; rw [if_neg (by have := HO8'.out; omega), if_neg (by have := HO8'.out; omega), if_pos HO8'.out.symm, ← hd31]⟩
            clear hd31
            go_wp2_with (first | ((with_reducible refine gate_builtin (b := .append) (xs := #[.tmp 137, .tmp 142]) rfl ?_); at_builtin; refine app_lit rfl (.tmp 137) (.tmp 142) 27 33 (.agg #[.int .i64 0, .int .i64 0, .int .i64 0, .string ⟨#[]⟩]) 4 40 rfl Tryz.underlying27 infoEv4 (by decide) (by decide) w3.heap.size (.slice A7 n c7) n (evs (E0 T X i)) wr.heap.size 1 #[.int .i64 4, .int .i64 0, .int .i64 d, .string ⟨#[]⟩] 33 rfl rfl ?aG rfl ?a1 ?aO ?aB ?aN (by decide) ?_; (case aG => exact blk_new wr _); (case a1 => intro u hu; simp only [List.mem_cons, List.not_mem_nil, or_false] at hu; rcases hu with rfl | rfl | rfl | rfl <;> rfl); (case aO => exact HOE1.out.alloc _); (case aB => exact (by have h := HFr.out.size; rw [size_set, size_set] at h; rw [World.size_alloc]; omega)); (case aN => exact (by omega)); intro v10 w10 ho10 hf10 hat10; obtain ⟨A10, c10, rfl⟩ := own_slice ho10; have HO10 := Aside0.mk ho10; have HNR := Aside0.mk (ne_types HOE1.out HOK1.out (by decide)); have HK10 := Aside0.mk (hf10.own (HOK1.out.alloc (.cells #[.int .i64 4, .int .i64 0, .int .i64 d, .string ⟨#[]⟩] 33)) (fun b hb hs => HNR.out b hs hb)); have HF10 := Aside0.mk ((HFr.out.alloc (.cells #[.int .i64 4, .int .i64 0, .int .i64 d, .string ⟨#[]⟩] 33)).trans hf10 (fun i hi hs => by have h1 := (own_old HOE1.out hs).1; rw [size_set, size_set] at hi; omega)); clear ho10 hf10 hat10))
            refine ⟨⟨i + 1, n + 1, m, g8, c10, c8, A10, K, ?_, by omega, rfl, rfl, by omega, by omega, ⟨by rw [E0_succ, HTS.out.1, HTS.out.2, HTN.out, List.length_append, HEL.out]; rfl⟩, HKL, ⟨by rw [F0_succ, HTS.out.1, HTS.out.2, HTN.out]; exact HKP.out.zero⟩, ⟨okTL_succ (u := .drain d) HOK.out (by rw [HTS.out.1, HTS.out.2, HTN.out]) hdb⟩, ⟨by rw [E0_succ, HTS.out.1, HTS.out.2, HTN.out]; show w10.ownsRow _ _ _ _ _ (evs (E0 T X i ++ [drainE d])); rw [evs_snoc]; exact HO10.out⟩, HK10, HF10⟩, ?_⟩
            · first | rfl | (push_cast; rfl)
            · simp only [intOf]; omega
          · have HTN : Aside0 (turnOf i t s = .tick) := ⟨by unfold turnOf; rw [if_neg (by have := HO8'.out; omega), if_neg (by have := HO8'.out; omega), if_neg (by have := HO8'.out; omega), if_pos HO8'.out.symm]⟩
            go_wp2_with (first | ((with_reducible refine gate_builtin (b := .append) (xs := #[.tmp 146, .tmp 148]) rfl ?_); at_builtin; refine app_lit rfl (.tmp 146) (.tmp 148) 27 33 (.agg #[.int .i64 0, .int .i64 0, .int .i64 0, .string ⟨#[]⟩]) 4 40 rfl Tryz.underlying27 infoEv4 (by decide) (by decide) w3.heap.size (.slice A7 n c7) n (evs (E0 T X i)) wr.heap.size 1 #[.int .i64 5, .int .i64 0, .int .i64 0, .string ⟨#[]⟩] 33 rfl rfl ?aG rfl ?a1 ?aO ?aB ?aN (by decide) ?_; (case aG => exact blk_new wr _); (case a1 => intro u hu; simp only [List.mem_cons, List.not_mem_nil, or_false] at hu; rcases hu with rfl | rfl | rfl | rfl <;> rfl); (case aO => exact HOE1.out.alloc _); (case aB => exact (by have h := HFr.out.size; rw [size_set, size_set] at h; rw [World.size_alloc]; omega)); (case aN => exact (by omega)); intro v10 w10 ho10 hf10 hat10; obtain ⟨A10, c10, rfl⟩ := own_slice ho10; have HO10 := Aside0.mk ho10; have HNR := Aside0.mk (ne_types HOE1.out HOK1.out (by decide)); have HK10 := Aside0.mk (hf10.own (HOK1.out.alloc (.cells #[.int .i64 5, .int .i64 0, .int .i64 0, .string ⟨#[]⟩] 33)) (fun b hb hs => HNR.out b hs hb)); have HF10 := Aside0.mk ((HFr.out.alloc (.cells #[.int .i64 5, .int .i64 0, .int .i64 0, .string ⟨#[]⟩] 33)).trans hf10 (fun i hi hs => by have h1 := (own_old HOE1.out hs).1; rw [size_set, size_set] at hi; omega)); clear ho10 hf10 hat10))
            refine ⟨⟨i + 1, n + 1, m, g8, c10, c8, A10, K, ?_, by omega, rfl, rfl, by omega, by omega, ⟨by rw [E0_succ, HTS.out.1, HTS.out.2, HTN.out, List.length_append, HEL.out]; rfl⟩, HKL, ⟨by rw [F0_succ, HTS.out.1, HTS.out.2, HTN.out]; exact HKP.out.zero⟩, ⟨okTL_succ (u := .tick) HOK.out (by rw [HTS.out.1, HTS.out.2, HTN.out]) trivial⟩, ⟨by rw [E0_succ, HTS.out.1, HTS.out.2, HTN.out]; show w10.ownsRow _ _ _ _ _ (evs (E0 T X i ++ [tickT])); rw [evs_snoc]; exact HO10.out⟩, HK10, HF10⟩, ?_⟩
            · first | rfl | (push_cast; rfl)
            · simp only [intOf]; omega
          · have HTN : Aside0 (turnOf i t s = .keys q i s) := ⟨by unfold turnOf; rw [if_neg (by have := HO8'.out; omega), if_neg (by have := HO8'.out; omega), if_neg (by have := HO8'.out; omega), if_neg (by have := HO8'.out; omega), HQ.out]⟩
            have t0 : (o == 0) = false := by simp; omega
            have t1 : (o == 1) = false := by simp; omega
            have t2 : (o == 2) = false := by simp; omega
            have t3 : (o == 3) = false := by simp; omega
            have hs0 : s.size ≠ 0 := fun h0 => by
              have h1 := (toList_nil s).2 h0
              rw [h1] at he
              cases he
            have OKT : okT (.keys q i s) := ⟨hq3, by omega, HS60.out, hs0, H29.out⟩
            have HOKT := Aside0.mk OKT
            have HSA : Aside0 (∀ W, Calls Tryz.prog 14 #[.int .i64 q, .agg #[.int .i64 2, .int .i64 (i : Int), .int .i64 0, .string s]] W (QV W (sayE q (keyM i s)))) := ⟨fun W => said_calls q (keyM i s) W (by show s.size ≤ _; have := HS60.out; omega)⟩
            have HAL : Aside0 (∀ W, Calls Tryz.prog 13 #[.int .i64 q] W (QV W (allE q))) := ⟨fun W => allE_calls q W⟩
            have HRT1 := Aside0.mk ct1
            have HRT2 := Aside0.mk cs1
            clear OKT hs0 h4
            rename World => wM
            go_wp2
            go_loopw [8] (fun v8 wr => ∃ (m2 g2 c2 : Nat) (K2 : List Int), v8 = .slice (some ⟨g2, 0, none⟩) m2 c2 ∧ m2 ≤ n + 1 ∧ Aside0 (K2.length = m2) ∧ Aside0 (KP K2 (F0 T X i)) ∧ Aside0 (wr.ownsRow w3.heap.size 3 1 (.slice (some ⟨g2, 0, none⟩) m2 c2) m2 (nums .i64 K2)) ∧ Aside0 (wr.ownsRow w3.heap.size 33 4 (.slice A7 n c7) n (evs (E0 T X i))) ∧ Aside0 (Fr nope ((w3.setCell ⟨w.heap.size, 6, none⟩ (.int .i64 0)).setCell ⟨w.heap.size, 2, none⟩ (.int .i64 4000)) wr)) (fun v8 _ => n + 1 - lenS v8)
            case atStart => exact ⟨m, g8, c8, K, rfl, by omega, HKL, HKP, HOK1, HOE1, HFr⟩
            case round =>
              obtain ⟨m2, g2, c2, K2, rfl, hm2, HKL2, HKP2, HOK2, HOE2, HF2⟩ := hrel
              have hws2 : w3.heap.size ≤ wr.heap.size := by have h := HF2.out.size; rw [size_set, size_set] at h; exact h
              by_cases hlt3 : m2 < n + 1
              · have hl3 : (m2 : Int) < ((n + 1 : Nat) : Int) := by omega
                have hl4 : (m2 : Int) < (n : Int) + 1 := by omega
                have hm2k : K2.length = m2 := HKL2.out
                go_wp2_with (first | ((with_reducible refine gate_builtin (b := .append) (xs := #[.tmp 98, .tmp 99]) rfl ?_); at_builtin; refine app_lit rfl (.tmp 98) (.tmp 99) 24 3 (.int .i64 0) 1 8 rfl Tryz.underlying24 info3 (by decide) (by decide) w3.heap.size (.slice (some ⟨g2, 0, none⟩) m2 c2) m2 (nums .i64 K2) wr.heap.size 1 #[.int .i64 0] 3 rfl rfl ?aG rfl ?a1 ?aO ?aB ?aN (by decide) ?_; (case aG => exact blk_new wr _); (case a1 => intro u hu; simp only [List.mem_cons, List.not_mem_nil, or_false] at hu; rcases hu with rfl; rfl); (case aO => exact HOK2.out.alloc _); (case aB => exact (by rw [World.size_alloc]; omega)); (case aN => exact (by omega)); intro v11 w11 ho11 hf11 hat11; obtain ⟨A11, c11, rfl⟩ := own_slice ho11; obtain ⟨g11, rfl⟩ := own_some ho11 (by omega); have HO11 := Aside0.mk ho11; have HNR := Aside0.mk (ne_types HOE2.out HOK2.out (by decide)); have HE11 := Aside0.mk (hf11.own (HOE2.out.alloc (.cells #[.int .i64 0] 3)) (fun b hb hs => HNR.out b hb hs)); have HF11 := Aside0.mk ((HF2.out.alloc (.cells #[.int .i64 0] 3)).trans hf11 (fun i hi hs => by have h1 := (own_old HOK2.out hs).1; rw [size_set, size_set] at hi; omega)); clear ho11 hf11 hat11))
                refine ⟨⟨m2 + 1, g11, c11, K2 ++ [0], rfl, by omega, ⟨by rw [List.length_append, hm2k]; rfl⟩, ⟨HKP2.out.snoc0⟩, ⟨by rw [nums_append]; exact HO11.out⟩, HE11, HF11⟩, ?_⟩
                show n + 1 - (m2 + 1) < n + 1 - m2
                omega
              · have hmn2 : m2 = n + 1 := by omega
                subst hmn2
                have hat := own_at HOK2.out (n : Int) (by omega) (by push_cast; omega)
                rw [Int.toNat_natCast] at hat
                obtain ⟨k1, k2⟩ := hat
                have hst := own_store HOK2.out (n : Int) q
                rw [Int.toNat_natCast] at hst
                have HST := Aside0.mk hst
                have hbg := World.block_lt_of_cell? _ _ k1
                have hn3 : ¬ ((n + 1 : Nat) : Int) < ((n + 1 : Nat) : Int) := by omega
                have hn4 : ¬ ((n : Int) + 1) < ((n : Int) + 1) := by omega
                have hgb : w3.heap.size ≤ g2 := (own_old HOK2.out (i := g2) rfl).1
                have HKP3 : Aside0 (KP (K2.set n q) (F0 T X (i + 1))) := ⟨by rw [F0_succ, HTS.out.1, HTS.out.2, HTN.out]; exact HKP2.out.set (by rw [F0_len, HEL.out]) HKL2.out⟩
                have HKL3 : Aside0 ((K2.set n q).length = n + 1) := ⟨by rw [List.length_set]; exact HKL2.out⟩
                clear hlt3 hst
                go_upto_region 25 with fail
                obtain ⟨W0, hW0⟩ : ∃ W0, W0 = wr.setCell ⟨g2, n, none⟩ (.int .i64 q) := ⟨_, rfl⟩
                rw [← hW0]
                rw [← hW0] at HST
                have hNRs := ne_types HOE2.out HOK2.out (by decide)
                have HE0 : Aside0 (OwnsEv w3.heap.size W0 (.slice A7 n c7) (E0 T X i)) := ⟨by unfold OwnsEv; rw [HEL.out, hW0]; exact own_setCell HOE2.out (fun hx => hNRs g2 hx.symm rfl) _⟩
                have HFW : Aside0 (Fr nope ((w3.setCell ⟨w.heap.size, 6, none⟩ (.int .i64 0)).setCell ⟨w.heap.size, 2, none⟩ (.int .i64 4000)) W0) := ⟨by rw [hW0]; exact HF2.out.set (fun h => by rw [size_set, size_set] at h; omega) n _⟩
                have csW := fr_cell HFW.out (fr_cell HFS.out (show w.cell? (ad2.add i) = some (.string s) from by obtain ⟨ad, ha, hc⟩ := HR2.out.2.2 (by omega); cases ha; rw [← HSX.out]; exact hc i (by omega)))
                have HCS := Aside0.mk csW
                have lcW := World.block_lt_of_cell? _ _ csW
                have HFr0 := Aside0.mk (Fr.refl nope W0)
                have HFr : Aside0 (Fr nope W0 W0) := HFr0
                clear hW0 k1 k2 hbg hNRs
                go_region_law (first | (refine step_evsI (by rfl) (.tmp 106) (.tmp 119) (by rfl) w3.heap.size w5.heap.size (.slice A7 n c7) (E0 T X i) [allE q, sayE q (keyM i s), allE q] (some ⟨w5.heap.size, 0, none⟩) 3 3 (n + 3) rfl (by rw [List.length_append, HEL.out]; rfl) (by decide) (by rfl) (by rfl) ((HFr.out.own HE0.out (fun _ _ h => h)).alloc _) (own_litE w5 w5.heap.size _ 3 _ rfl rfl (Nat.le_refl _) (by decide)) (by rw [HEL.out]; omega) (by have h0 := HFW.out.size; have h1 := HFr.out.size; rw [size_set, size_set] at h0; rw [World.size_alloc]; omega) ?_; intro A9 c9 w9 ho9 hf9; have HO9 : Aside0 (w9.ownsRow w3.heap.size 33 4 (.slice A9 (n + 3) c9) (n + 3) (evs (E0 T X (i + 1)))) := ⟨by have h := ho9; unfold OwnsEv at h; rw [List.length_append, HEL.out] at h; rw [E0_succ, HTS.out.1, HTS.out.2, HTN.out]; exact h⟩; have HK9 := Aside0.mk (hf9.own ((HFr.out.own HST.out.1 (fun _ _ h => h)).alloc _) (fun b hb hs => ne_types HE0.out HST.out.1 (by decide) b hs hb)); have HF9 := Aside0.mk (((HFW.out.trans HFr.out (fun _ _ h => h)).alloc _).trans hf9 (fun i hi hs => by have h1 := (own_old HE0.out hs).1; rw [size_set, size_set] at hi; omega)); clear ho9 hf9) | (go_simp; (first | (go_at_call 13; (with_reducible refine (HAL.out _).mono ?_); unfold QV evV; rintro e5 w5 ⟨rfl, hf5⟩; have HFr : Aside0 (Fr nope W0 w5) := ⟨by first | exact HFr.out.trans hf5 (fun _ _ h => h) | exact (HFr.out.drew).trans hf5 (fun _ _ h => h)⟩; have csw := fr_cell HFr.out HCS.out; have lcw := World.block_lt_of_cell? _ _ csw; clear hf5) | (go_at_call 14; (with_reducible refine (HSA.out _).mono ?_); unfold QV evV; rintro e5 w5 ⟨rfl, hf5⟩; have HFr : Aside0 (Fr nope W0 w5) := ⟨by first | exact HFr.out.trans hf5 (fun _ _ h => h) | exact (HFr.out.drew).trans hf5 (fun _ _ h => h)⟩; clear hf5))))
                all_goals
                  go_wp2
                  refine ⟨⟨i + 1, n + 3, n + 1, g2, c9, c2, A9, K2.set n q, ?_, by omega, rfl, rfl, by omega, by omega, ⟨by rw [E0_succ, HTS.out.1, HTS.out.2, HTN.out, List.length_append, HEL.out]; rfl⟩, HKL3, HKP3, ⟨okTL_succ (u := .keys q i s) HOK.out (by rw [HTS.out.1, HTS.out.2, HTN.out]) HOKT.out⟩, HO9, HK9, HF9⟩, ?_⟩
                  · first | rfl | (push_cast; rfl)
                  · simp only [intOf]; omega
    · have hin : i = T.length := by omega
      subst hin
      clear hlt hi HS4 HO4 HO5 HO6 HO7 HO67 HO8 HO45 HF4 HF5 HF6 HF7
      rename Act → World → Prop => Kx
      revert c T X A1 A2 cp1 cp2 w w1 w3 w4 A4 c4' w5 A5 c5' A6 c6' w6 w7 A7p c7' A8 c8' w8 Kx wr u6 u9 u10 u11 u13 u55 u56 u57 u58 u59 u60 u61 u62 u63 u64 u65 u66 u67 u68 u69 u70 u71 u72 u73 u74 u75 u76 u77 u78 u79 u80 u81 u82 u83 u84 u85 u86 u87 u88 u89 u90 u91 u92 u93 u94 u95 u96 u97 u98 u99 u100 u101 u102 u103 u104 u105 u106 u107 u108 u109 u110 u111 u112 u113 u114 u115 u116 u117 u118 u119 u120 u121 u122 u123 u124 u125 u126 u127 u128 u129 u130 u131 u132 u133 u134 u135 u136 u137 u138 u139 u140 u141 u142 u143 u144 u145 u146 u147 u148 u149 u150 n m g8 c7 c8 A7 K
      exact hG.out
set_option maxRecDepth 100000 in
set_option maxHeartbeats 32000000 in
theorem inputDown : inputUp.1 := by
  intro c T X A1 A2 cp1 cp2 w HLIB HR1 HR2 HC HF0 Qp w1 HF1 HRT HCB hT hX w3 HF3 HB3 hT1 hX1 hq0 w4 A4 c4' w5 A5 c5' A6 c6' w6 w7 A7p c7' A8 c8' w8 HF8 Kx hKx HBI HF8w HL0 HFS wr u6 u9 u10 u11 u13 u55 u56 u57 u58 u59 u60 u61 u62 u63 u64 u65 u66 u67 u68 u69 u70 u71 u72 u73 u74 u75 u76 u77 u78 u79 u80 u81 u82 u83 u84 u85 u86 u87 u88 u89 u90 u91 u92 u93 u94 u95 u96 u97 u98 u99 u100 u101 u102 u103 u104 u105 u106 u107 u108 u109 u110 u111 u112 u113 u114 u115 u116 u117 u118 u119 u120 u121 u122 u123 u124 u125 u126 u127 u128 u129 u130 u131 u132 u133 u134 u135 u136 u137 u138 u139 u140 u141 u142 u143 u144 u145 u146 u147 u148 u149 u150 n m g8 c7 c8 A7 K hmn HKL HOKr HF HFw hws hn6 HEL HKP HOK HOE
  have hnlt : ¬ (T.length : Int) < (T.length : Int) := by omega
  have hln : (TL T X T.length).length = T.length := TL_len T X T.length
  obtain ⟨Wl, hchk, hbal, hev⟩ := input_ok HCB.out (TL T X T.length) (by omega) HOK.out
  obtain ⟨EI, hEI⟩ : ∃ E, E = inE (TL T X T.length) := ⟨_, rfl⟩
  obtain ⟨FI, hFI⟩ : ∃ F, F = inK (TL T X T.length) := ⟨_, rfl⟩
  obtain ⟨R, hR⟩ : ∃ R, R = (run EI (stNew (cfI c))).2 := ⟨_, rfl⟩
  rw [← hEI] at hchk hbal hev
  rw [← hR, ← hFI] at hchk
  rw [← hR] at hbal
  have hE0 : EI = E0 T X T.length ++ [drainE 65536] := hEI
  have hF0 : FI = F0 T X T.length ++ [0] := hFI
  obtain ⟨N, hN⟩ : ∃ N, N = n + 1 := ⟨_, rfl⟩
  have hEN : EI.length = N := by rw [hE0, List.length_append, HEL.out, hN]; rfl
  have hKF : KP K FI := by rw [hF0]; exact HKP.out.zero
  have hN126 : N ≤ 127 := by omega
  have hmN : m ≤ N := by omega
  have hwle : Wl.flatten.length ≤ 60 * 127 := by have h1 := flat_le hchk.le; have h2 := hchk.2.2.1; omega
  have HCHK := Aside0.mk hchk
  have HRR := Aside0.mk hR
  have HBAL := Aside0.mk hbal
  have HEV := Aside0.mk hev
  have HEN := Aside0.mk hEN
  have HKF := Aside0.mk hKF
  have HWLE := Aside0.mk hwle
  have HE0 := Aside0.mk hE0
  have HNN := Aside0.mk hN
  have hBI := HF.out.blk (blk_set (blk_set HB3.out 6 (.int .i64 0)) 2 (.int .i64 4000)) (fun h => h)
  have HBI2 : Aside0 (wr.heap[w.heap.size]? = some (.cells (cfCells (cfI c)) 23 (0, 0))) := ⟨hBI⟩
  have HPL : Aside0 (∀ (B : Option Addr) (cB : Nat) (W : World) (b0 : Nat), Fr nope ((w3.setCell ⟨w.heap.size, 6, none⟩ (.int .i64 0)).setCell ⟨w.heap.size, 2, none⟩ (.int .i64 4000)) W → W.ownsRow b0 33 4 (.slice B N cB) N (evs EI) → Calls Tryz.prog 15 #[.agg #[.int .i64 c.a0, .int .i64 c.a1, .int .i64 4000, .int .i64 c.a3, .int .i64 c.a4, .int .i64 c.a5, .int .i64 0, .int .i64 c.a7], .slice B N cB] W fun e w' => ∃ p A1 c1, e = .returned (.tuple #[p, .slice A1 N c1, .bool true]) ∧ Fr nope W w' ∧ ReadsOut w' A1 R) := ⟨fun B cB W b0 hF ho => by
    have hR1 : ReadsEv W B EI := reads_of_own (base := b0) (m := N) (c := cB) (by unfold OwnsEv; rw [HEN.out]; exact ho) (fun e he => (HEV.out e he).1) (by omega)
    have h0 : outSum EI ≤ 8100 := by
      have h1 : ∀ L : List Ev, (∀ e ∈ L, e.k ≠ 3) → outSum L = 0 := by
        intro L
        induction L with
        | nil => intro _; rfl
        | cons e L ih =>
          intro h
          have h2 := ih (fun x hx => h x (by simp [hx]))
          unfold outSum at h2 ⊢
          simp only [List.map_cons, List.sum_cons, h2]
          unfold outLen
          rw [if_neg (h e (by simp))]
      rw [h1 EI (fun e he => (HEV.out e he).2.2)]; omega
    have hz : sz EI ≤ 100000 := by
      have h1 : ∀ L : List Ev, (∀ e ∈ L, e.d.size ≤ 700) → sz L ≤ 700 * L.length := by
        intro L
        induction L with
        | nil => intro _; simp [sz]
        | cons e L ih =>
          intro h
          have h2 := ih (fun x hx => h x (by simp [hx]))
          have h3 := h e (by simp)
          unfold sz at h2 ⊢
          simp only [List.map_cons, List.sum_cons, List.length_cons]
          omega
      have := h1 EI (fun e he => (HEV.out e he).2.1)
      rw [HEN.out] at this
      omega
    have hq := played_calls (cfI c) EI B cB W (HL0.out W hF) (cfI_ok HCB.out) (fun e he => (HEV.out e he).1) h0 (by rw [HEN.out]; omega) hz hR1
    rw [HEN.out] at hq
    refine hq.mono ?_
    rintro e w' ⟨L', o', x, rfl, q1, q2, q3, q4, q5⟩
    rw [← HRR.out] at q4
    have hl : R.length = N := by rw [HCHK.out.2.1, HEN.out]
    obtain ⟨A1, c1, rfl⟩ := own_slice q4
    exact ⟨_, A1, c1, by rw [hl], q2, readsOut q4 rfl⟩⟩
  have hws3 : w3.heap.size ≤ wr.heap.size := hws
  clear hchk hbal hev hEI hFI hR hE0 hF0 hEN hKF hwle hBI hln hN
  go_wp2_with (first | ((with_reducible refine gate_builtin (b := .append) (xs := #[.tmp 151, .tmp 153]) rfl ?_); at_builtin; refine app_lit rfl (.tmp 151) (.tmp 153) 27 33 (.agg #[.int .i64 0, .int .i64 0, .int .i64 0, .string ⟨#[]⟩]) 4 40 rfl Tryz.underlying27 infoEv4 (by decide) (by decide) w3.heap.size (.slice A7 n c7) n (evs (E0 T X T.length)) wr.heap.size 1 #[.int .i64 4, .int .i64 0, .int .i64 65536, .string ⟨#[]⟩] 33 rfl rfl ?aG rfl ?a1 ?aO ?aB ?aN (by decide) ?_; (case aG => exact blk_new wr _); (case a1 => intro u hu; simp only [List.mem_cons, List.not_mem_nil, or_false] at hu; rcases hu with rfl | rfl | rfl | rfl <;> rfl); (case aO => exact HOE.out.alloc _); (case aB => exact (by rw [World.size_alloc]; omega)); (case aN => exact (by omega)); intro v10 w10 ho10 hf10 hat10; obtain ⟨A10, c10, rfl⟩ := own_slice ho10; rw [HNN.out.symm] at ho10 ⊢; have HE10 : Aside0 (w10.ownsRow w3.heap.size 33 4 (.slice A10 N c10) N (evs EI)) := ⟨by rw [HE0.out]; rw [evs_snoc]; exact ho10⟩; have HNR := Aside0.mk (ne_types HOE.out HOKr.out (by decide)); have HK10 := Aside0.mk (hf10.own (HOKr.out.alloc (.cells #[.int .i64 4, .int .i64 0, .int .i64 65536, .string ⟨#[]⟩] 33)) (fun b hb hs => HNR.out b hs hb)); have HF10 := Aside0.mk ((HF.out.alloc (.cells #[.int .i64 4, .int .i64 0, .int .i64 65536, .string ⟨#[]⟩] 33)).trans hf10 (fun i hi hs => by have h1 := (own_old HOE.out hs).1; rw [size_set, size_set] at hi; omega)); have hB10 := HF10.out.blk (blk_set (blk_set HB3.out 6 (.int .i64 0)) 2 (.int .i64 4000)) (fun h => h); obtain ⟨c0, c1, c2, c3, c4, c5, c6, c7x⟩ := cells8 (c := cfI c) hB10; unfold cfI at c0 c1 c2 c3 c4 c5 c6 c7x; simp only at c0 c1 c2 c3 c4 c5 c6 c7x; clear ho10 hf10 hat10 hB10) | (go_at_call 15; (with_reducible refine (HPL.out A10 c10 w10 _ HF10.out HE10.out).mono ?_); rintro e11 w11 ⟨p11, A11, c11, rfl, hf11, hr11⟩; have HF11 := Aside0.mk (HF10.out.trans hf11 (fun _ _ h => h)); have HE11 := Aside0.mk (hf11.own HE10.out (fun _ _ h => h)); have HK11 := Aside0.mk (hf11.own HK10.out (fun _ _ h => h)); have HO11 := Aside0.mk hr11; clear hf11 hr11 c0 c1 c2 c3 c4 c5 c6 c7x))
  have HRE11 : Aside0 (ReadsEv w11 A10 EI) := ⟨reads_of_own (base := w3.heap.size) (m := N) (c := c10) (by unfold OwnsEv; rw [HEN.out]; exact HE11.out) (fun e he => (HEV.out e he).1) (by rw [HEN.out]; omega)⟩
  have HRL : Aside0 (R.length = N) := ⟨by rw [HCHK.out.2.1, HEN.out]⟩
  have HGL : Aside0 ((gOf EI R).length = N) := ⟨by rw [gOf_len _ _ HCHK.out.2.1, HEN.out]⟩
  have HWL : Aside0 (Wl.length = N) := ⟨by rw [HCHK.out.2.2.1, HEN.out]⟩
  have HGLE : Aside0 ((gOf EI R).flatten.length ≤ 60 * 127) := ⟨by rw [← HBAL.out]; exact HWLE.out⟩
  have HF11w : Aside0 (Fr nope w w11) := ⟨HFS.out.trans HF11.out (fun _ _ h => h)⟩
  go_loopw [17, 18, 166] (fun v17 v18 v166 wq => ∃ (j : Nat) (G H : ByteArray), v166 = .int .i64 j ∧ j ≤ N ∧ v17 = .string G ∧ v18 = .string H ∧ G.size ≤ 8000 ∧ H.size ≤ 8000 ∧ Aside0 (G = strOfNums (flatN (gOf EI R) j)) ∧ Aside0 (H = strOfNums (flatN Wl j)) ∧ Aside0 (Fr nope w11 wq)) (fun _ _ v166 _ => N - (intOf v166).toNat)
  case atStart => exact ⟨0, ⟨#[]⟩, ⟨#[]⟩, rfl, Nat.zero_le _, rfl, rfl, Nat.zero_le _, Nat.zero_le _, ⟨rfl⟩, ⟨rfl⟩, ⟨Fr.refl nope w11⟩⟩
  case round =>
    rename World => wR
    obtain ⟨j, G, H, rfl, hj, rfl, rfl, hGz, hHz, HG, HH, HFj⟩ := hrel
    by_cases hjl : j < N
    · obtain ⟨e, he⟩ : ∃ e, EI.getD j ev0 = e := ⟨_, rfl⟩
      obtain ⟨ae, hA10, g0, g1, g2, g3, hsz⟩ := evCells HRE11.out j (by rw [HEN.out]; exact hjl) e he HFj.out
      subst hA10
      obtain ⟨ad, hA11, hcs⟩ := (HO11.out.fr HFj.out) (by rw [HRL.out]; omega)
      subst hA11
      obtain ⟨r, hr⟩ : ∃ r, strOfNums (R.getD j (0, [])).2 = r := ⟨_, rfl⟩
      have r1 := (hcs j (by rw [HRL.out]; exact hjl)).2
      rw [hr] at r1
      have hjj : (j : Int) < (N : Int) := by omega
      have hj0 : (0 : Int) ≤ (j : Int) := by omega
      have hwj : IntKind.i64.wrap ((j : Int) + 1) = ((j + 1 : Nat) : Int) := by rw [IntKind.wrap_i64]; push_cast; omega
      have lae := World.block_lt_of_cell? _ _ g0
      have lad := World.block_lt_of_cell? _ _ r1
      have HCS := Aside0.mk hcs
      have hg := gOf_at HCHK.out.2.1 (j := j) (by rw [HEN.out]; exact hjl)
      have hgs := flatN_succ (L := gOf EI R) (j := j) (by rw [HGL.out]; exact hjl)
      have hws' := flatN_succ (L := Wl) (j := j) (by rw [HWL.out]; exact hjl)
      rw [hg, he] at hgs
      have hle1 := flatN_le (gOf EI R) (j + 1)
      have hle2 := flatN_le Wl (j + 1)
      have HGS := Aside0.mk (And.intro hgs (And.intro hws' (And.intro hle1 hle2)))
      obtain ⟨k1, k2⟩ := HCHK.out.2.2.2 j (by rw [HEN.out]; exact hjl)
      rw [he] at k2
      have HK1 := Aside0.mk (And.intro k1 k2)
      have hkf := HKF.out j
      have HKFj := Aside0.mk hkf
      clear he hcs hg hgs hws' hle1 hle2 k1 k2 hkf
      by_cases h4 : e.k = 4
      · rw [h4] at g0
        obtain ⟨G1, hG1⟩ : ∃ G1, G1 = G ++ r := ⟨_, rfl⟩
        have HG1 : Aside0 (G1 = strOfNums (flatN (gOf EI R) (j + 1))) := ⟨by rw [HGS.out.1, if_pos h4, ← str_app, hr, ← HG.out, hG1]⟩
        have hG1z : G1.size ≤ 8000 := by rw [HG1.out, strOf_size]; have := HGS.out.2.2.1; have := HGLE.out; omega
        have hk0 : FI.getD j 0 = 0 := by
          apply Classical.byContradiction
          intro hne
          exact ((HK1.out.2 hne).2.1) h4
        have HH1 : Aside0 (H = strOfNums (flatN Wl (j + 1))) := ⟨by rw [HGS.out.2.1, HK1.out.1 hk0, List.append_nil]; exact HH.out⟩
        have hG1' := hG1.symm
        have hcc : ¬ 9223372036854775807 < G.size + r.size := by
          have h0 : G1.size = G.size + r.size := by rw [hG1, ByteArray.size_append]
          omega
        clear hG1 hr h4
        by_cases hjm : j < m
        · have hjm1 : ¬ (m : Int) ≤ (j : Int) := by omega
          have hjm2 : (j : Int) < (m : Int) := by omega
          have hk := own_at ((HFj.out.own HK11.out (fun _ _ h => h))) (j : Int) (by omega) (by omega)
          rw [Int.toNat_natCast] at hk
          have hk1 := hk.1
          have hrd : rd K (j : Int) = 0 := by
            unfold rd
            rw [Int.toNat_natCast]
            have h0 := HKFj.out
            rw [if_pos (by rw [HKL.out]; exact hjm)] at h0
            rw [← h0]; exact hk0
          rw [hrd] at hk1
          have lk := World.block_lt_of_cell? _ _ hk1
          clear hk hrd hjm hk0
          go_wp2
          refine ⟨⟨j + 1, G1, H, ?_, by omega, rfl, rfl, hG1z, hHz, HG1, HH1, HFj⟩, ?_⟩
          · first | rfl | (push_cast; rfl)
          · simp only [intOf]; omega
        · have hjm1 : (m : Int) ≤ (j : Int) := by omega
          clear hjm hk0
          go_wp2
          refine ⟨⟨j + 1, G1, H, ?_, by omega, rfl, rfl, hG1z, hHz, HG1, HH1, HFj⟩, ?_⟩
          · first | rfl | (push_cast; rfl)
          · simp only [intOf]; omega
      · have t4 : (e.k == 4) = false := by simpa using h4
        have HG1 : Aside0 (G = strOfNums (flatN (gOf EI R) (j + 1))) := ⟨by rw [HGS.out.1, if_neg h4, List.append_nil]; exact HG.out⟩
        by_cases hk0 : FI.getD j 0 = 0
        · have HH1 : Aside0 (H = strOfNums (flatN Wl (j + 1))) := ⟨by rw [HGS.out.2.1, HK1.out.1 hk0, List.append_nil]; exact HH.out⟩
          clear hr h4
          by_cases hjm : j < m
          · have hjm1 : ¬ (m : Int) ≤ (j : Int) := by omega
            have hjm2 : (j : Int) < (m : Int) := by omega
            have hk := own_at ((HFj.out.own HK11.out (fun _ _ h => h))) (j : Int) (by omega) (by omega)
            rw [Int.toNat_natCast] at hk
            have hk1 := hk.1
            have hrd : rd K (j : Int) = 0 := by
              unfold rd
              rw [Int.toNat_natCast]
              have h0 := HKFj.out
              rw [if_pos (by rw [HKL.out]; exact hjm)] at h0
              rw [← h0]; exact hk0
            rw [hrd] at hk1
            have lk := World.block_lt_of_cell? _ _ hk1
            clear hk hrd hjm hk0
            go_wp2
            refine ⟨⟨j + 1, G, H, ?_, by omega, rfl, rfl, hGz, hHz, HG1, HH1, HFj⟩, ?_⟩
            · first | rfl | (push_cast; rfl)
            · simp only [intOf]; omega
          · have hjm1 : (m : Int) ≤ (j : Int) := by omega
            clear hjm hk0
            go_wp2
            refine ⟨⟨j + 1, G, H, ?_, by omega, rfl, rfl, hGz, hHz, HG1, HH1, HFj⟩, ?_⟩
            · first | rfl | (push_cast; rfl)
            · simp only [intOf]; omega
        · have hjm : j < m := by
            apply Classical.byContradiction
            intro hn
            have h0 := HKFj.out
            rw [if_neg (by rw [HKL.out]; exact hn)] at h0
            exact hk0 h0
          obtain ⟨d1, d2, mm, id, d3, d4, d5, d6, d7, d8⟩ := HK1.out.2 hk0
          rw [HEN.out] at d1
          have hjm1 : ¬ (m : Int) ≤ (j : Int) := by omega
          have hjm2 : (j : Int) < (m : Int) := by omega
          have hk := own_at ((HFj.out.own HK11.out (fun _ _ h => h))) (j : Int) (by omega) (by omega)
          rw [Int.toNat_natCast] at hk
          have hk1 := hk.1
          have hrd : rd K (j : Int) = id := by
            unfold rd
            rw [Int.toNat_natCast]
            have h0 := HKFj.out
            rw [if_pos (by rw [HKL.out]; exact hjm)] at h0
            rw [← h0]; exact d3
          rw [hrd] at hk1
          have lk := World.block_lt_of_cell? _ _ hk1
          obtain ⟨e2, he2⟩ : ∃ e2, EI.getD (j + 1) ev0 = e2 := ⟨_, rfl⟩
          rw [he2] at d7
          obtain ⟨ae2, hA2x, _, _, _, f3, _⟩ := evCells HRE11.out (j + 1) (by rw [HEN.out]; omega) e2 he2 HFj.out
          cases hA2x
          obtain ⟨fs, hfs⟩ : ∃ fs, fs = strOfNums (mB mm) := ⟨_, rfl⟩
          rw [d7, ← hfs] at f3
          have HFRM : Aside0 (∀ W, Calls Tryz.prog 17 #[.string fs] W fun e w' => ∃ Ab cb, e = .returned (.agg #[.int .u8 mm.k, .slice Ab (mBody mm).length cb]) ∧ w'.ownsRow W.heap.size 5 1 (.slice Ab (mBody mm).length cb) (mBody mm).length (nums .u8 (mBody mm)) ∧ Fr nope W w') := ⟨fun W => by rw [hfs]; exact frameOf_calls mm d5 W⟩
          have HOFM : Aside0 (∀ (W : World) (b : Nat) (Ab : Option Addr) (cb : Nat), W.ownsRow b 5 1 (.slice Ab (mBody mm).length cb) (mBody mm).length (nums .u8 (mBody mm)) → Calls Tryz.prog 16 #[.agg #[.int .u8 mm.k, .slice Ab (mBody mm).length cb]] W fun e w' => e = .returned (.tuple #[.agg #[.int .i64 mm.k, .int .i64 mm.a, .int .i64 mm.b, .string mm.t], .bool true]) ∧ Fr nope W w') := ⟨fun W b Ab cb ho => ofFrame_calls mm d5 ho⟩
          obtain ⟨s8, hs8⟩ : ∃ x, strOfNums (R.getD (j + 2) (0, [])).2 = x := ⟨_, rfl⟩
          have r2 := (HCS.out (j + 2) (by rw [HRL.out]; exact d1)).2
          rw [hs8] at r2
          have lr2 := World.block_lt_of_cell? _ _ r2
          have lf3 := World.block_lt_of_cell? _ _ f3
          have ti0 : (id == 0) = false := by simp; omega
          have hwj1 : IntKind.i64.wrap ((j : Int) + 2) = ((j + 2 : Nat) : Int) := by rw [IntKind.wrap_i64]; push_cast; omega
          have hj1N : ((j + 1 : Nat) : Int) < (N : Int) := by omega
          have hj2N : ((j + 2 : Nat) : Int) < (N : Int) := by omega
          have hj3N : (j : Int) + 1 < (N : Int) := by omega
          have hj4N : (j : Int) + 2 < (N : Int) := by omega
          have kcv : ∀ W, (convert 9 29 (.string s8)).run Tryz.prog W = .ok (.slice (some ⟨W.heap.size, 0, none⟩) s8.size (grownCap W s8.size 0 5)) (Lib.bytesWorld W 5 s8) := fun W => Lib.run_convert_string_bytes W 9 29 5 s8 Tryz.underlying9 Tryz.underlying29 Tryz.underlying5
          have HWQ := Aside0.mk (And.intro d3 (And.intro d5 d6))
          have HRg := HRL
          clear hr h4 hk hrd d2 d3 d7 he2 hfs hk0 hjm
          rename World => wQ
          rcases d8 with ⟨x1, x2, x3⟩ | ⟨why, y1, y2, y3, y4, y5⟩
          · have ti3 : (id == 3) = false := by simpa using x3
            have hs80 : s8 = ⟨#[]⟩ := by rw [← hs8, x1]; rfl
            have HMS : Aside0 (∀ (W0 : World) (ob : Obj), Calls Tryz.prog 18 #[.slice (some ⟨W0.heap.size + 1, 0, none⟩) s8.size (grownCap (W0.alloc ob) s8.size 0 5)] (Lib.bytesWorld (W0.alloc ob) 5 s8) fun e w' => ∃ A c, e = .returned (.tuple #[.slice A 0 c, .bool true]) ∧ Fr nope (Lib.bytesWorld (W0.alloc ob) 5 s8) w') := ⟨fun W0 ob => by rw [hs80]; have h := msgs_empty (W0.alloc ob); rw [World.size_alloc] at h; exact h⟩
            obtain ⟨H1, hH1⟩ : ∃ H1, H1 = H ++ mm.t := ⟨_, rfl⟩
            have HH1 : Aside0 (H1 = strOfNums (flatN Wl (j + 1))) := ⟨by rw [HGS.out.2.1, x2, ← str_app, str_bytes, ← HH.out, hH1]⟩
            have hH1z : H1.size ≤ 8000 := by rw [HH1.out, strOf_size]; have := HGS.out.2.2.2; have := HWLE.out; omega
            have hH1' := hH1.symm
            have hcc : ¬ 9223372036854775807 < H.size + mm.t.size := by
              have h0 : H1.size = H.size + mm.t.size := by rw [hH1, ByteArray.size_append]
              omega
            clear hs8 hs80 x1 x2 x3 hH1 d5 d6
            go_wp2_with (first | (go_at_call 17; (with_reducible refine (HFRM.out _).mono ?_); rintro e16 w16 ⟨Ab, cb, rfl, ho16, hf16⟩; have HO16 := Aside0.mk ho16; have HF16 := Aside0.mk hf16; clear ho16 hf16) | (go_at_call 16; (with_reducible refine (HOFM.out _ _ Ab cb HO16.out).mono ?_); rintro e17 w17 ⟨rfl, hf17⟩; have HF17 := Aside0.mk (HF16.out.trans hf17 (fun _ _ h => h)); have r2 := fr_cell HF17.out r2; have lr2 := World.block_lt_of_cell? _ _ r2; clear hf17) | (go_at_call 18; (with_reducible refine (HMS.out _ _).mono ?_); rintro e18 w18 ⟨A18, c18, rfl, hf18⟩; have hBm := hf18.blk ((fr_bytes (Fr.refl nope (w17.alloc (.cells #[.int .i64 mm.k, .int .i64 mm.a, .int .i64 mm.b, .string mm.t] 39))) 5 s8).blk (blk_new w17 (.cells #[.int .i64 mm.k, .int .i64 mm.a, .int .i64 mm.b, .string mm.t] 39)) (fun h => h)) (fun h => h); have z1 : w18.cell? ⟨w17.heap.size, 1, none⟩ = some (.int .i64 mm.a) := (blk_cell hBm 1).trans rfl; have z3 : w18.cell? ⟨w17.heap.size, 3, none⟩ = some (.string mm.t) := (blk_cell hBm 3).trans rfl; have HF18 := Aside0.mk ((fr_bytes (HF17.out.alloc (.cells #[.int .i64 mm.k, .int .i64 mm.a, .int .i64 mm.b, .string mm.t] 39)) 5 s8).trans hf18 (fun _ _ h => h)); have HKC := Aside0.mk (fr_cell HF18.out hk1); clear hf18 hBm))
            go_loopw [24, 217] (fun v24 v217 wz => v24 = .int .i64 0 ∧ v217 = .int .i64 0 ∧ Aside0 (Fr nope w18 wz)) (fun _ _ _ => 0)
            case atStart => exact ⟨rfl, rfl, ⟨Fr.refl nope w18⟩⟩
            case round =>
              obtain ⟨rfl, rfl, HFz⟩ := hrel
              have p3 := fr_cell HFz.out z3
              have lp3 := World.block_lt_of_cell? _ _ p3
              have hk2 := fr_cell HFz.out HKC.out
              have lk2 := World.block_lt_of_cell? _ _ hk2
              go_wp2
              refine ⟨⟨j + 1, G, H1, ?_, by omega, rfl, rfl, hGz, hH1z, HG1, HH1, ⟨HFj.out.trans (HF18.out.trans HFz.out (fun _ _ h => h)) (fun _ _ h => h)⟩⟩, ?_⟩
              · first | rfl | (push_cast; rfl)
              · simp only [intOf]; omega
          · have hrg : mgB (rejM mm.a why) = true := rejM_ok (by have := mgB_facts d5; omega) ⟨y1, y2⟩
            have HMS : Aside0 (∀ (W0 : World) (ob : Obj), Calls Tryz.prog 18 #[.slice (some ⟨W0.heap.size + 1, 0, none⟩) s8.size (grownCap (W0.alloc ob) s8.size 0 5)] (Lib.bytesWorld (W0.alloc ob) 5 s8) fun e w' => ∃ g c, e = .returned (.tuple #[.slice (some ⟨g, 0, none⟩) 1 c, .bool true]) ∧ Fr nope (Lib.bytesWorld (W0.alloc ob) 5 s8) w' ∧ w'.cell? ⟨g, 0, none⟩ = some (.int .i64 8) ∧ w'.cell? ⟨g, 1, none⟩ = some (.int .i64 mm.a) ∧ w'.cell? ⟨g, 2, none⟩ = some (.int .i64 why) ∧ w'.cell? ⟨g, 3, none⟩ = some (.string ⟨#[]⟩)) := ⟨fun W0 ob => by have h := msgs_rej hrg (s := s8) (by rw [← hs8, y4]) (W0.alloc ob); rw [World.size_alloc] at h; exact h⟩
            have HH1 : Aside0 (H = strOfNums (flatN Wl (j + 1))) := ⟨by rw [HGS.out.2.1, y5, List.append_nil]; exact HH.out⟩
            have ty1 : ¬ why < 3 := by omega
            have ty2 : ¬ 5 < why := by omega
            have hwy : id = 3 → why = 3 := y3
            have HWY := Aside0.mk hwy
            clear hs8 y1 y2 y3 y4 y5 hrg d5 d6 hwy
            go_wp2_with (first | (go_at_call 17; (with_reducible refine (HFRM.out _).mono ?_); rintro e16 w16 ⟨Ab, cb, rfl, ho16, hf16⟩; have HO16 := Aside0.mk ho16; have HF16 := Aside0.mk hf16; clear ho16 hf16) | (go_at_call 16; (with_reducible refine (HOFM.out _ _ Ab cb HO16.out).mono ?_); rintro e17 w17 ⟨rfl, hf17⟩; have HF17 := Aside0.mk (HF16.out.trans hf17 (fun _ _ h => h)); have r2 := fr_cell HF17.out r2; have lr2 := World.block_lt_of_cell? _ _ r2; clear hf17) | (go_at_call 18; (with_reducible refine (HMS.out _ _).mono ?_); rintro e18 w18 ⟨g18, c18, rfl, hf18, m0, m1, m2, m3⟩; have HM18 := Aside0.mk (And.intro m0 (And.intro m1 (And.intro m2 m3))); clear m0 m1 m2 m3; have hBm := hf18.blk ((fr_bytes (Fr.refl nope (w17.alloc (.cells #[.int .i64 mm.k, .int .i64 mm.a, .int .i64 mm.b, .string mm.t] 39))) 5 s8).blk (blk_new w17 (.cells #[.int .i64 mm.k, .int .i64 mm.a, .int .i64 mm.b, .string mm.t] 39)) (fun h => h)) (fun h => h); have z1 : w18.cell? ⟨w17.heap.size, 1, none⟩ = some (.int .i64 mm.a) := (blk_cell hBm 1).trans rfl; have z3 : w18.cell? ⟨w17.heap.size, 3, none⟩ = some (.string mm.t) := (blk_cell hBm 3).trans rfl; have HF18 := Aside0.mk ((fr_bytes (HF17.out.alloc (.cells #[.int .i64 mm.k, .int .i64 mm.a, .int .i64 mm.b, .string mm.t] 39)) 5 s8).trans hf18 (fun _ _ h => h)); have HKC := Aside0.mk (fr_cell HF18.out hk1); clear hf18 hBm))
            go_loopw [24, 217] (fun v24 v217 wz => ∃ q : Nat, v24 = .int .i64 q ∧ v217 = .int .i64 q ∧ q ≤ 1 ∧ Aside0 (Fr nope w18 wz)) (fun _ v217 _ => 1 - (intOf v217).toNat)
            case atStart => exact ⟨0, rfl, rfl, by omega, ⟨Fr.refl nope w18⟩⟩
            case round =>
              obtain ⟨q, rfl, rfl, hq1, HFz⟩ := hrel
              have p1 := fr_cell HFz.out z1
              have lp1 := World.block_lt_of_cell? _ _ p1
              have hk2 := fr_cell HFz.out HKC.out
              have lk2 := World.block_lt_of_cell? _ _ hk2
              have hq01 : q = 0 ∨ q = 1 := by omega
              rcases hq01 with rfl | rfl
              · have m0 := fr_cell HFz.out HM18.out.1
                have m1 := fr_cell HFz.out HM18.out.2.1
                have m2 := fr_cell HFz.out HM18.out.2.2.1
                have m3 := fr_cell HFz.out HM18.out.2.2.2
                have lm0 := World.block_lt_of_cell? _ _ m0
                cases ti3 : (id == 3)
                · go_wp2
                  refine ⟨⟨1, ?_, ?_, by omega, ⟨HFz.out.alloc _⟩⟩, ?_⟩
                  · first | rfl | (push_cast; rfl)
                  · first | rfl | (push_cast; rfl)
                  · simp only [intOf]; omega
                · obtain rfl := HWY.out (by simpa using ti3)
                  go_wp2
                  refine ⟨⟨1, ?_, ?_, by omega, ⟨HFz.out.alloc _⟩⟩, ?_⟩
                  · first | rfl | (push_cast; rfl)
                  · first | rfl | (push_cast; rfl)
                  · simp only [intOf]; omega
              · cases ti3 : (id == 3)
                all_goals
                  go_wp2
                  refine ⟨⟨j + 1, G, H, ?_, by omega, rfl, rfl, hGz, hHz, HG1, HH1, ⟨HFj.out.trans (HF18.out.trans HFz.out (fun _ _ h => h)) (fun _ _ h => h)⟩⟩, ?_⟩
                  · first | rfl | (push_cast; rfl)
                  · simp only [intOf]; omega
    · have hjN : j = N := by omega
      subst hjN
      have hnl2 : ¬ (j : Int) < (j : Int) := by omega
      have hGH : G = H := by
        rw [HG.out, HH.out, flatN_all _ (by rw [HGL.out]; exact Nat.le_refl _), flatN_all _ (by rw [HWL.out]; exact Nat.le_refl _), HBAL.out]
      subst hGH
      clear hjl hj
      go_wp2
      go_returns
      exact ⟨by simp, HF11w.out.trans HFj.out (fun _ _ h => h)⟩
theorem input_calls (c : Cf) (T : List Int) (X : List ByteArray) (A1 A2 : Option Addr) (cp1 cp2 : Nat) (w : World) (hlib : LibOK w) (hr1 : ReadsInt w .i64 A1 T.length T) (hr2 : ReadsOf Value.string ByteArray.empty w A2 X.length X) :
    Calls Tryz.prog 3 #[.agg #[.int .i64 c.a0, .int .i64 c.a1, .int .i64 c.a2, .int .i64 c.a3, .int .i64 c.a4, .int .i64 c.a5, .int .i64 c.a6, .int .i64 c.a7], .slice A1 T.length cp1, .slice A2 X.length cp2] w fun e w' => e = .returned (.bool true) ∧ Fr nope w w' :=
  inputUp.2 ⟨inputDown⟩ c T X A1 A2 cp1 cp2 w hlib hr1 hr2
end Go.Proofs.YtfkamoiamebngaaGreatDoor.BroW

/- The row of WholeInput: for every input the law returns true, and each argument reads behind the call as it read before. No condition. -/
namespace Go.Proofs.YtfkamoiamebngaaGreatDoor.wholeInput
open Go.Proofs.YtfkamoiamebngaaGreatDoor.BroW Go.Proofs.YtfkamoiamebngaaGreatDoor.Fr
open Go.ChangeShapes Go.WideShapes Go.ChangeAt Go.RowKit
open Go.ChangeMaps (open_string shut_string)
open Go.Proofs.YtfkamoiamebngaaGreatDoor.Openers
set_option linter.unusedVariables false
set_option maxRecDepth 100000 in
theorem lifted (os : Os) (started : os.Started) (H : Type) (enc : TypeId × Value → H) :
    ReturnsInHanded {} Tryz.checked os 3 .any (fun w args => (Rows.wholeInputSpec.pre enc Tryz.prog Tryz.f3 Rows.wholeInputRow.domain false w args ∧ laidMetH Tryz.prog laid5 w) ∧ sizedMet enc Tryz.prog Tryz.f3 (OpenSpec.ofChange Rows.wholeInputSpec) false w args)
      (Rows.wholeInputSpec.post enc Tryz.prog Tryz.f3 false true false false) := by
  refine returnsInHanded_of_change_and (C := Tryz.checked) (X := fun w _ => laidMetH Tryz.prog laid5 w) (fun _ _ _ hh h => h.of_heap hh) ownKnob_no started (by kernel_rfl) Tryz.func3
    (ChangeSpec.witness_shaped (enc := enc) (C := Tryz.checked) (os := os) (X := fun w _ => laidMetH Tryz.prog laid5 w) false (World.doorLaid Tryz.prog 62 os) #[.agg #[.int .i64 0, .int .i64 0, .int .i64 0, .int .i64 0, .int .i64 0, .int .i64 0, .int .i64 0, .int .i64 0], .slice none 0 0, .slice none 0 0] 8 rfl (door_shaped os _) (by kernel_rfl) (by kernel_rfl) (by kernel_rfl) (door_met os _)) ?_
  intro W base args ds gs before hval0 hW hcnd hsz0 hL _
  have hsz : (DataW.weightsEach Tryz.prog (Tryz.f3.params.toList ++ Rows.wholeInputSpec.plain.varTypes Tryz.prog) (ds ++ gs)).all (· ≤ reachBytes) = true := hsz0
  have hval : ∀ (j : Nat) t v, Tryz.f3.params[j]? = some t → args[j]? = some v → Value.okWide Tryz.prog W .any base t v := hval0
  have hW' := hW
  obtain ⟨p, q, hA0, hV, rfl, hfz, hnd⟩ := hW
  have hA : DataW.TrodAll enc Tryz.prog W 0 (fun _ => true) true Tryz.f3.params.toList args.toList ds p := hA0
  rw [Tryz.params3] at hA hval hsz
  obtain ⟨v0, vs0, d0, ds0, p0, q0, hargs, rfl, rfl, h0, r0⟩ := trodAll_cons hA
  obtain ⟨v1, vs1, d1, ds1, p1, q1, rfl, rfl, rfl, h1, r1⟩ := trodAll_cons r0
  obtain ⟨v2, vs2, d2, ds2, p2, q2, rfl, rfl, rfl, h2, r2⟩ := trodAll_cons r1
  obtain ⟨rfl, rfl, rfl⟩ := trodAll_nil r2
  obtain rfl : args = #[v0, v1, v2] := by cases args; simp_all
  obtain ⟨rfl, rfl⟩ := trodVars_none hV
  have k0 := h0
  have lt0 : ∀ x ∈ p0, x.block < W.heap.size := by obtain ⟨m, hm⟩ := k0; exact DataW.trod_lt m _ _ _ hm
  obtain ⟨c0_0, c0_1, c0_2, c0_3, c0_4, c0_5, c0_6, c0_7, y0_0, y0_1, y0_2, y0_3, y0_4, y0_5, y0_6, y0_7, m0, rfl, t0_0, t0_1, t0_2, t0_3, t0_4, t0_5, t0_6, t0_7⟩ := open_agg8 Tryz.underlying23 (by kernel_rfl) (by kernel_rfl) (hval 0 23 v0 rfl rfl) h0
  obtain ⟨a0_0, e0_0, _, w0_0⟩ := DataW.trod_int Tryz.underlying3 t0_0
  obtain rfl := (List.cons.inj e0_0).1
  obtain ⟨a0_1, e0_1, _, w0_1⟩ := DataW.trod_int Tryz.underlying3 t0_1
  obtain rfl := (List.cons.inj e0_1).1
  obtain ⟨a0_2, e0_2, _, w0_2⟩ := DataW.trod_int Tryz.underlying3 t0_2
  obtain rfl := (List.cons.inj e0_2).1
  obtain ⟨a0_3, e0_3, _, w0_3⟩ := DataW.trod_int Tryz.underlying3 t0_3
  obtain rfl := (List.cons.inj e0_3).1
  obtain ⟨a0_4, e0_4, _, w0_4⟩ := DataW.trod_int Tryz.underlying3 t0_4
  obtain rfl := (List.cons.inj e0_4).1
  obtain ⟨a0_5, e0_5, _, w0_5⟩ := DataW.trod_int Tryz.underlying3 t0_5
  obtain rfl := (List.cons.inj e0_5).1
  obtain ⟨a0_6, e0_6, _, w0_6⟩ := DataW.trod_int Tryz.underlying3 t0_6
  obtain rfl := (List.cons.inj e0_6).1
  obtain ⟨a0_7, e0_7, _, w0_7⟩ := DataW.trod_int Tryz.underlying3 t0_7
  obtain rfl := (List.cons.inj e0_7).1
  have k1 := h1
  have lt1 : ∀ x ∈ p1, x.block < W.heap.size := by obtain ⟨m, hm⟩ := k1; exact DataW.trod_lt m _ _ _ hm
  obtain ⟨A1, len1, cap1, rfl⟩ := okWide_slice Tryz.underlying24 (hval 1 24 v1 rfl rfl)
  obtain ⟨x1, rfl, hc1, hr1, hw1, hb1⟩ := open_nums (P := Tryz.prog) Tryz.underlying24 Tryz.underlying3 (by kernel_rfl) (B := 8) (by kernel_rfl) (light_arg hsz (j := 1) (t := 24) rfl rfl) (show ∃ fuel, DataW.trod enc Tryz.prog W 0 (fun _ => true) true fuel 24 [.slice A1 len1 cap1] = some (d1, p1) from h1)
  have k2 := h2
  have lt2 : ∀ x ∈ p2, x.block < W.heap.size := by obtain ⟨m, hm⟩ := k2; exact DataW.trod_lt m _ _ _ hm
  obtain ⟨A2, len2, cap2, rfl⟩ := okWide_slice Tryz.underlying25 (hval 2 25 v2 rfl rfl)
  obtain ⟨x2, rfl, hc2, hr2, hw2, hb2⟩ := open_texts (P := Tryz.prog) Tryz.underlying25 Tryz.underlying9 (by kernel_rfl) (light_arg hsz (j := 2) (t := 25) rfl rfl) (show ∃ fuel, DataW.trod enc Tryz.prog W 0 (fun _ => true) true fuel 25 [.slice A2 len2 cap2] = some (d2, p2) from h2)
  have HLIB := libOK_of_laid hL
  clear hA0 hval0 hsz0 hL
  refine (input_calls ⟨a0_0, a0_1, a0_2, a0_3, a0_4, a0_5, a0_6, a0_7⟩ x1 x2 A1 A2 cap1 cap2 W HLIB hr1 hr2).mono fun e W' ⟨he, hfr⟩ => ?_
  have bel : Below W.heap.size W W' := hfr.to_below (Nat.le_refl _) (fun _ h => h.elim)
  subst he
  exact ⟨_, rfl, _, _, _, [], _, [], hW', trodAll_mk1 (shut_bool Tryz.underlying4 _), (trodAll_cons_mk (Below.trod laidOut (by kernel_rfl) (of_decide_eq_true (by kernel_rfl)) k0 bel lt0) (trodAll_cons_mk (Below.trod laidOut (by kernel_rfl) (of_decide_eq_true (by kernel_rfl)) k1 bel lt1) (trodAll_cons_mk (Below.trod laidOut (by kernel_rfl) (of_decide_eq_true (by kernel_rfl)) k2 bel lt2) trodAll_mk0))), rfl, bel.frame _, fun h => by cases h⟩
theorem over : Rows.wholeInputRow.holds Tryz.pinned (OpenSpec.ofChange Rows.wholeInputSpec) :=
  OpenClaim.holds_of_wide 3 Tryz.f3 rfl rfl rfl rfl rfl rfl rfl ⟨rfl, rfl, rfl, rfl, rfl⟩ rfl rfl rfl rfl rfl (by kernel_rfl) Tryz.func3 (by kernel_rfl)
    (of_decide_eq_true (by kernel_rfl)) (by unfold Func.isWrapper; first | (rw [if_pos (by decide +kernel)]; kernel_rfl) | (rw [if_neg (by decide +kernel)]; exact ⟨rfl, rfl⟩))
    (fun os started H enc _ => lifted os started H enc)
end Go.Proofs.YtfkamoiamebngaaGreatDoor.wholeInput
namespace Go.Proofs.YtfkamoiamebngaaGreatDoor
/-- The row. -/
theorem wholeInput_row : Rows.WholeInputSaid := wholeInput.over
/-- The tied card: the row, with the listed variables tied to the program's text. -/
theorem wholeInput_holds : Rows.WholeInputCardSaid :=
  Claim7.holds_tied_plain_at .later [] [.data, .data, .data, .sentinel, .sentinel] true (true, "b7a23f3f368572dcbfca7fbf3647117a06bbe60edbc6d71d68e3d0a3f79b162f") true
    wholeInput_row (fun _ h => by cases h) (by kernel_rfl) (fun _ h => by cases h) wholeInput_row_tie rfl ⟨rfl, rfl⟩ (by kernel_rfl) rfl
    (fun f fn hf hfn => by
      obtain rfl : f = 3 := Option.some.inj ((show Tryz.prog.funcNamed "kibitzer/kibitzertop.WholeInput" = some 3 by kernel_rfl).symm.trans hf) |>.symm
      obtain rfl : fn = Tryz.f3 := (Option.some.inj (Tryz.func3.symm.trans hfn)).symm
      exact ⟨by kernel_rfl, fun j t ht => by
        rw [Tryz.params3] at ht
        have hm : t ∈ [23, 24, 25] := by simpa using Array.mem_of_getElem? ht
        have hall : ([23, 24, 25].all fun u => !Tryz.prog.wantsStandIn u) = true := by kernel_rfl
        exact (show Tryz.prog.wantsStandIn t = false by simpa using List.all_eq_true.1 hall t hm)⟩)
    (by kernel_rfl)
#print axioms wholeInput_holds
end Go.Proofs.YtfkamoiamebngaaGreatDoor
