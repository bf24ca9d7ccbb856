/- kibitzertop: WholeKick, the plain law. -/
import Derived.Test.YtfkamoiamebngaaGreatDoorM22
import Derived.Deep.DeepCutAuto
import Derived.Deep.RegionWith
import Derived.BigRegion
import Derived.Deep.RegionLaw
import Derived.SevenTiedAt
import Derived.LaidMore
import Derived.Handed
import Derived.WalkKit
import Derived.ProofKit
import Derived.OpenShut
import Derived.ShutString
import Derived.ChangeOld
import Derived.Below
import Derived.SizedLaws
namespace Go.Proofs.YtfkamoiamebngaaGreatDoor.BroW
open Go.RowKit Go.Proofs.YtfkamoiamebngaaGreatDoorW.PrintWords Go.Proofs.YtfkamoiamebngaaGreatDoorW.PrintMore Go.Proofs.YtfkamoiamebngaaGreatDoor.Fr Go.Proofs.YtfkamoiamebngaaGreatDoor.ScrW Go.Proofs.YtfkamoiamebngaaGreatDoor.ScrP Go.Proofs.YtfkamoiamebngaaGreatDoor.Mod
set_option linter.unusedVariables false
set_option linter.unusedSimpArgs false

/-- so many come, all as writers -/
def hereL (n : Nat) : List Ev := ((List.range n).map fun (i : Nat) => comesL ((i : Int) + 1) true 0).flatten
/-- "kick w" -/
def kickT (w : Nat) : ByteArray := ⟨#[107, 105, 99, 107, 32]⟩ ++ strOfNums [48 + (w : Int)]
def kickE (w : Nat) : List Ev := [cmdE w ⟨#[102, 108, 111, 111, 114]⟩, allE w, cmdE 1 (kickT w), allE w]
def kickL (u w : Nat) : List Ev := hereL u ++ kickE w
def kickOK (u w : Nat) : Bool :=
  let L := kickL u w
  let r := run L (stNew cfD)
  let d := strOfNums (r.2.getD (2 * u + 3) (0, [])).2
  L.all evB && decide (L.length = 2 * u + 4 ∧ r.2.length = 2 * u + 4 ∧ outSum L ≤ 8100 ∧ sz L ≤ 100000 ∧ d.size ≤ 100000 ∧ msgsM (bytesOf d) = ([⟨13, 5, 0, ⟨#[]⟩⟩], true) ∧ (r.1.tb.roles w).isSome = false ∧ r.1.tb.holder = 0 ∧ r.1.tb.users.length = u - 1 ∧ (ids16.filter fun i => (r.1.cn i).isSome).length = u - 1)
theorem kick_ok : ∀ u, u < 10 → 2 ≤ u → ∀ w, w ≤ u → 2 ≤ w → kickOK u w = true := by decide +kernel
end Go.Proofs.YtfkamoiamebngaaGreatDoor.BroW

/- kibitzertop: WholeKick, the walk. -/
namespace Go.Proofs.YtfkamoiamebngaaGreatDoor.BroW
open Go.RowKit Go.Proofs.YtfkamoiamebngaaGreatDoorW.PrintWords Go.Proofs.YtfkamoiamebngaaGreatDoorW.PrintMore Go.Proofs.YtfkamoiamebngaaGreatDoor.Fr Go.Proofs.YtfkamoiamebngaaGreatDoor.ScrW Go.Proofs.YtfkamoiamebngaaGreatDoor.ScrP Go.Proofs.YtfkamoiamebngaaGreatDoor.Mod
set_option linter.unusedVariables false
set_option linter.unusedSimpArgs false

theorem i64_and7 (n : Int) : bits .and .i64 n 7 = n % 8 := by
  have h7 : (BitVec.ofInt 64 7).toNat = 2 ^ 3 - 1 := by decide
  have key : (BitVec.ofInt 64 n &&& BitVec.ofInt 64 7).toNat = (n % ((2 ^ 64 : Nat) : Int)).toNat % 2 ^ 3 := by
    rw [BitVec.toNat_and, BitVec.toNat_ofInt, h7, Nat.and_two_pow_sub_one_eq_mod]
  show IntKind.i64.wrap ((BitVec.ofInt 64 n &&& BitVec.ofInt 64 7).toNat : Nat) = n % 8
  rw [key, IntKind.wrap_i64]
  omega

theorem hereL_succ (k : Nat) : hereL (k + 1) = hereL k ++ comesL ((k : Int) + 1) true 0 := by
  unfold hereL; rw [List.range_succ]; simp
theorem hereL_len : ∀ k, (hereL k).length = 2 * k
  | 0 => rfl
  | k + 1 => by rw [hereL_succ, List.length_append, hereL_len k]; show 2 * k + 2 = _; omega
theorem who_ok (b : Int) (U : Nat) (h2 : 2 ≤ U) (h9 : U ≤ 9) : ∃ V : Nat, wrap64 (2 + wrap64 ((IntKind.u64.wrap b).tmod ((U : Int) - 1))) = (V : Int) ∧ 2 ≤ V ∧ V ≤ U := by
  have h0 : 0 ≤ IntKind.u64.wrap b := by rw [IntKind.wrap_u64]; omega
  rw [Int.tmod_eq_emod_of_nonneg h0]
  have h3 := Int.emod_nonneg (IntKind.u64.wrap b) (show (U : Int) - 1 ≠ 0 by omega)
  have h4 := Int.emod_lt_of_pos (IntKind.u64.wrap b) (show (0 : Int) < (U : Int) - 1 by omega)
  generalize (IntKind.u64.wrap b) % ((U : Int) - 1) = r at h3 h4
  refine ⟨(2 + r).toNat, ?_, by omega, by omega⟩
  have e1 : wrap64 r = r := by unfold wrap64; omega
  rw [e1]
  unfold wrap64
  omega

/-- append of a row of events onto another: at a step of a region that draws its order -/
theorem step_evs {ops : Array Oper} {Q : Exit → Act → World → Prop} {K : Act → World → Prop} {E : Prop} {a : Act} {o : Oper} {W : World} (hgd : o.guard = none) (s x : Operand) (ho : o.op = .call { callee := .builtin .append, args := #[s, x], argTypes := #[27, 27] })
    (base b2 : Nat) (v : Value) (L M : List Ev) (A : Option Addr) (m c k : Nat) (hm : M.length = m) (hk : (L ++ M).length = k) (hpos : 0 < m) (hs : a.eval s = v) (hx : a.eval x = .slice A m c)
    (hown : OwnsEv base W v L) (hM : OwnsEv b2 W (.slice A m c) M) (hlen : L.length + m ≤ 100000) (hbase : base ≤ W.heap.size)
    (h : ∀ A1 c1 w1, OwnsEv base w1 (.slice A1 k c1) (L ++ M) → Fr (rowOf v) W w1 → K (a.put o.dst (.slice A1 k c1)) w1) :
    if Region.wanted o (yielded ops a.tmps) = true then Oper.wp Tryz.prog o a W K Q else E := by
  subst hm hk
  have hw : Region.wanted o (yielded ops a.tmps) = true := by simp [Region.wanted, hgd]
  rw [if_pos hw]
  obtain ⟨i0, hi, hzz⟩ := Option.map_eq_some_iff.1 infoEv4
  simp only [Prod.mk.injEq] at hzz
  obtain ⟨hz0, hz1, hz2⟩ := hzz
  obtain ⟨g, rfl⟩ : ∃ g, A = some ⟨g, 0, none⟩ := by
    rcases hM.2 with ⟨_, h0⟩ | ⟨g, cap, cur, hv, _⟩
    · omega
    · injection hv with e1 _ _; exact ⟨g, e1⟩
  have hc := World.ownsRow.cells hM (g := g) rfl
  obtain ⟨v1, w1, hr1, h2, h3, _, h5⟩ := run_append_own_at (P := Tryz.prog) W base 27 o.type 33 i0 _ 4 40 Tryz.underlying27 hi hz0 hz1 hz2 rfl (by decide) v L.length (evs L) hown ⟨g, 0, none⟩ M.length c (evs M) (evs_len M) (fun j u hu => by
    have hadd : (⟨g, 0, none⟩ : Addr).add j = ⟨g, j, none⟩ := by unfold Addr.add; split <;> simp_all
    have h0 := hc j u hu
    exact h0) (evs_one M) (by unfold maxLen; omega) (by omega) hbase
  have h2' : OwnsEv base w1 v1 (L ++ M) := by
    unfold OwnsEv
    rw [List.length_append, show evs (L ++ M) = evs L ++ evs M by simp [evs]]
    exact h2
  obtain ⟨A1, c1, rfl⟩ := own_slice h2'
  unfold Oper.wp execOp
  simp only [ho, resolve, invoke, builtin, Sem.run_bind, Sem.run_pure, Result.andThen_ok, List.map_toArray, List.map_cons, List.map_nil, hs, hx, hr1]
  exact h A1 c1 w1 h2' ((Fr.refl (rowOf v) W).grown h3 (fun _ hb _ => hb))

theorem kick_facts {u w : Nat} (h : kickOK u w = true) : (∀ e ∈ kickL u w, evB e = true) ∧ (kickL u w).length = 2 * u + 4 ∧ (run (kickL u w) (stNew cfD)).2.length = 2 * u + 4 ∧ outSum (kickL u w) ≤ 8100 ∧ sz (kickL u w) ≤ 100000 ∧ (strOfNums ((run (kickL u w) (stNew cfD)).2.getD (2 * u + 3) (0, [])).2).size ≤ 100000 ∧ msgsM (bytesOf (strOfNums ((run (kickL u w) (stNew cfD)).2.getD (2 * u + 3) (0, [])).2)) = ([⟨13, 5, 0, ⟨#[]⟩⟩], true) ∧ ((run (kickL u w) (stNew cfD)).1.tb.roles w).isSome = false ∧ (run (kickL u w) (stNew cfD)).1.tb.holder = 0 ∧ (run (kickL u w) (stNew cfD)).1.tb.users.length = u - 1 ∧ (ids16.filter fun i => ((run (kickL u w) (stNew cfD)).1.cn i).isSome).length = u - 1 := by
  unfold kickOK at h
  simp only [Bool.and_eq_true, decide_eq_true_eq, List.all_eq_true] at h
  exact ⟨h.1, h.2⟩
theorem ids_conns {w : World} {L : Lay} {o : Own} {S : St} (h : Rep w L o S) : idsL L.cp = ids16.filter fun i => (S.cn i).isSome := by
  unfold idsL
  congr 1
  funext i
  rcases h.con i with ⟨h1, h2⟩ | ⟨g1, c1, h1, h2, _⟩
  · rw [h1, h2]; rfl
  · rw [h1, h2]; rfl
/-- what the last part of WholeKick needs of a play -/
theorem kick_played (u v : Nat) (hu : u ≤ 9) (h : kickOK u v = true) (A : Option Addr) (cp : Nat) (W : World) (hlib : LibOK W) (hr : ReadsEv W A (kickL u v)) :
    Calls Tryz.prog 15 #[.agg #[.int .i64 4096, .int .i64 512, .int .i64 2048, .int .i64 256, .int .i64 3, .int .i64 100, .int .i64 0, .int .i64 80], .slice A (2 * u + 4) cp] W fun e w' => ∃ L o g c, e = .returned (.tuple #[.pointer (some ⟨L.bg, 0, none⟩), .slice (some ⟨g, 0, none⟩) (2 * u + 4) c, .bool true]) ∧ Rep w' L o (run (kickL u v) (stNew cfD)).1 ∧ w'.cell? ⟨g, (2 * u + 3) * 2 + 1, none⟩ = some (.string (strOfNums ((run (kickL u v) (stNew cfD)).2.getD (2 * u + 3) (0, [])).2)) ∧ Fr nope W w' := by
  obtain ⟨f1, f2, f3, f4, f5, _⟩ := kick_facts h
  have hq := played_calls cfD (kickL u v) A cp W hlib cfD_right f1 f4 (by rw [f2]; omega) f5 hr
  rw [f2] at hq
  refine hq.mono ?_
  rintro e w' ⟨L', o', x, rfl, q1, q2, q3, q4, q5⟩
  rw [f3] at q4
  obtain ⟨A1, c1, rfl⟩ := own_slice q4
  obtain ⟨g, rfl⟩ := own_some q4 (by omega)
  exact ⟨L', o', g, c1, rfl, q1, own_cellAt q4 _ _ (outs_at _ _ (by rw [f3]; omega)), q2⟩
/-- Messages of what the one who was sent away is told -/
theorem kick_msgs (s8 : ByteArray) (h1 : s8.size ≤ 100000) (h2 : msgsM (bytesOf s8) = ([⟨13, 5, 0, ⟨#[]⟩⟩], true)) (W : World) :
    Calls Tryz.prog 18 #[.slice (some ⟨W.heap.size, 0, none⟩) s8.size (grownCap W s8.size 0 5)] (Lib.bytesWorld W 5 s8) fun e w' => ∃ g c, e = .returned (.tuple #[.slice (some ⟨g, 0, none⟩) 1 c, .bool true]) ∧ Fr nope (Lib.bytesWorld W 5 s8) w' ∧ w'.cell? ⟨g, 0, none⟩ = some (.int .i64 13) ∧ w'.cell? ⟨g, 1, none⟩ = some (.int .i64 5) ∧ w'.cell? ⟨g, 2, none⟩ = some (.int .i64 0) ∧ w'.cell? ⟨g, 3, none⟩ = some (.string ⟨#[]⟩) := by
  have hq := msgs_calls s8 W h1
  rw [h2] at hq
  refine hq.mono ?_
  rintro e w' ⟨v, rfl, q1, q2⟩
  have q1' : w'.ownsRow (Lib.bytesWorld W 5 s8).heap.size 39 4 v 1 (mgs [⟨13, 5, 0, ⟨#[]⟩⟩]) := q1
  obtain ⟨A1, c1, rfl⟩ := own_slice q1'
  obtain ⟨g, rfl⟩ := own_some q1' (by decide)
  exact ⟨g, c1, rfl, q2, own_cellAt q1' 0 _ rfl, own_cellAt q1' 1 _ rfl, own_cellAt q1' 2 _ rfl, own_cellAt q1' 3 _ rfl⟩

set_option maxRecDepth 100000 in
set_option maxHeartbeats 8000000 in
theorem kick_calls (a b : Int) (w : World) (hlib : LibOK w) : Calls Tryz.prog 8 #[.int .i64 a, .int .i64 b] w fun e w' => e = .returned (.bool true) ∧ Fr nope w w' := by
  have HLIB := Aside0.mk hlib
  obtain ⟨x, hx⟩ : ∃ x, bits .and .i64 a 7 = x := ⟨_, rfl⟩
  obtain ⟨U, hU⟩ : ∃ U : Nat, U = (2 + a % 8).toNat := ⟨_, rfl⟩
  have hxa := i64_and7 a
  rw [hx] at hxa
  have hu2 : 2 ≤ U := by omega
  have hu9 : U ≤ 9 := by omega
  have hw1 : IntKind.i64.wrap (2 + x) = (U : Int) := by rw [IntKind.wrap_i64]; omega
  have hw2 : IntKind.i64.wrap ((U : Int) - 1) = (U : Int) - 1 := by rw [IntKind.wrap_i64]; omega
  obtain ⟨V, hv, hv2, hvU⟩ := who_ok b U hu2 hu9
  clear hlib hU hxa
  go_enter Tryz.func8, Tryz.ntmps8
  go_wp2_with (first | (go_at_call 9; (with_reducible refine (alive_calls _ HLIB.out).mono ?_); rintro e1 w1 ⟨rfl, hf1⟩; have HF1 := Aside0.mk hf1; clear hf1))
  rw [hv]
  go_loopw [5, 6] (fun v5 v6 wr => ∃ (k : Nat) (A5 : Option Addr) (c5 : Nat), v6 = .int .i64 ((k : Int) + 1) ∧ k ≤ U ∧ v5 = .slice A5 (2 * k) c5 ∧ Aside0 (OwnsEv w1.heap.size wr (.slice A5 (2 * k) c5) (hereL k)) ∧ Aside0 (Fr nope w1 wr)) (fun _ v6 _ => U + 1 - (intOf v6).toNat)
  case atStart => exact ⟨0, _, 0, rfl, Nat.zero_le _, rfl, ⟨World.ownsRow_made w1 #[] 0 (Nat.le_refl _) (by unfold maxLen; omega) rfl⟩, ⟨(Fr.refl nope w1).alloc _⟩⟩
  case round =>
    obtain ⟨k, A5, c5, rfl, hk, rfl, HO, HF⟩ := hrel
    by_cases hlt : k < U
    · have hle : ((k : Int) + 1) ≤ (U : Int) := by omega
      have hwk : IntKind.i64.wrap ((k : Int) + 1 + 1) = (k : Int) + 1 + 1 := by rw [IntKind.wrap_i64]; omega
      go_wp2_with (first | (go_at_call 11; (with_reducible refine (comes_calls ((k : Int) + 1) true 0 _).mono ?_); rintro e2 w2 ⟨v2, rfl, ho2, hf2⟩; obtain ⟨A2, c2, rfl⟩ := own_slice ho2; have HO2 := Aside0.mk ho2; have HF2 := Aside0.mk hf2; clear ho2 hf2) | ((with_reducible refine gate_builtin (b := .append) (xs := #[.tmp 33, .tmp 35]) rfl ?_); at_builtin; refine app_evs rfl (.tmp 33) (.tmp 35) rfl w1.heap.size wr.heap.size (.slice A5 (2 * k) c5) (hereL k) (comesL ((k : Int) + 1) true 0) A2 2 c2 (2 * (k + 1)) rfl (by rw [List.length_append, hereL_len]; show 2 * k + 2 = _; omega) (by decide) rfl rfl (HF2.out.own HO.out (fun _ _ h => h)) HO2.out (by rw [hereL_len]; omega) (Nat.le_trans HF.out.size HF2.out.size) ?_; intro A3 c3 w3 ho3 hf3; have HO3 := Aside0.mk ho3; have HF3 := Aside0.mk ((HF.out.trans HF2.out (fun _ _ h => h)).trans hf3 (fun i hi hs => by have := (own_old HO.out hs).1; omega)); clear ho3 hf3))
      refine ⟨⟨k + 1, A3, c3, rfl, by omega, rfl, ⟨by rw [hereL_succ]; exact HO3.out⟩, HF3⟩, ?_⟩
      show U + 1 - ((k : Int) + 1 + 1).toNat < U + 1 - ((k : Int) + 1).toNat
      omega
    · have hkU : k = U := by omega
      subst hkU
      have hnle : ¬ ((k : Int) + 1) ≤ (k : Int) := by omega
      clear hlt
      obtain ⟨X, hX⟩ : ∃ X, X = 48 + (V : Int) := ⟨_, rfl⟩
      have hx1 : IntKind.i64.wrap (48 + (V : Int)) = X := by rw [IntKind.wrap_i64]; omega
      have hx2 : IntKind.u8.wrap X = X := by rw [IntKind.wrap_u8]; omega
      obtain ⟨T0, hT0⟩ : ∃ T0, T0 = strOfNums [X] := ⟨_, rfl⟩
      have hT1 : T0.size = 1 := by rw [hT0]; rfl
      obtain ⟨T, hT⟩ : ∃ T, T = (⟨#[107, 105, 99, 107, 32]⟩ : ByteArray) ++ T0 := ⟨_, rfl⟩
      have hTk : T = kickT V := by rw [hT, hT0, hX]; rfl
      have hTs : T.size ≤ 100000 := by rw [hT, ByteArray.size_append, hT1]; decide
      have hT' := hT.symm
      have HC1 : Aside0 (∀ W, Calls Tryz.prog 12 #[.int .i64 (V : Int), .string ⟨#[102, 108, 111, 111, 114]⟩] W (QV W (cmdE V ⟨#[102, 108, 111, 111, 114]⟩))) := ⟨fun W => command_calls V _ W (by decide)⟩
      have HC2 : Aside0 (∀ W, Calls Tryz.prog 12 #[.int .i64 1, .string T] W (QV W (cmdE 1 T))) := ⟨fun W => command_calls 1 T W hTs⟩
      have HCA : Aside0 (∀ W, Calls Tryz.prog 13 #[.int .i64 (V : Int)] W (QV W (allE V))) := ⟨fun W => allE_calls V W⟩
      have HX := Aside0.mk hX
      have HTK := Aside0.mk hTk
      have hcc : ¬ 9223372036854775807 < 5 + T0.size := by rw [hT1]; decide
      have kst : ∀ (W : World) (g : Nat), W.heap[g]? = some (.cells #[.int .u8 X] 5 (0, 0)) → (convert 29 9 (.slice (some ⟨g, 0, none⟩) 1 1)).run Tryz.prog W = .ok (.string T0) W := fun W g hb => by
        rw [hT0]
        exact string_of_reads (xs := [X]) Tryz.underlying29 Tryz.underlying5 Tryz.underlying9 (own_readsInt (base := 0) (e := 5) (c := 1) ⟨rfl, .inr ⟨g, 1, _, rfl, Nat.zero_le _, hb, Nat.le_refl _, by unfold maxLen; omega, rfl, rfl⟩⟩)
      have kst2 : ∀ W : World, (convert 29 9 (.slice (some ⟨W.heap.size, 0, none⟩) 1 1)).run Tryz.prog (W.alloc (.cells #[.int .u8 X] 5)) = .ok (.string T0) (W.alloc (.cells #[.int .u8 X] 5)) := fun W => kst _ _ (blk_new W _)
      have kst3 : ∀ W : World, (convert 29 9 (.slice (some ⟨W.heap.size, 0, none⟩) 1 1)).run Tryz.prog (W.alloc (.cells #[.int .u8 X] 5)).drew = .ok (.string T0) (W.alloc (.cells #[.int .u8 X] 5)).drew := fun W => kst _ _ (blk_new W _)
      clear hX hTk hT hT0 hTs hT1
      have HFr := Aside0.mk (Fr.refl nope wr)
      go_upto_region 10 with fail
      go_cut [5] (fun s5 wx => ∃ (A : Option Addr) (c : Nat), s5 = .slice A (2 * k + 4) c ∧ Aside0 (OwnsEv w1.heap.size wx (.slice A (2 * k + 4) c) (kickL k V)) ∧ Aside0 (Fr nope w1 wx))
      case first =>
        go_region_law (first | (refine step_evs (by rfl) (.tmp 37) (.tmp 51) (by rfl) w1.heap.size w5.heap.size (.slice A5 (2 * k) c5) (hereL k) [cmdE V ⟨#[102, 108, 111, 111, 114]⟩, allE V, cmdE 1 T, allE V] (some ⟨w5.heap.size, 0, none⟩) 4 4 (2 * k + 4) rfl (by rw [List.length_append, hereL_len]; rfl) (by decide) (by rfl) (by rfl) ((HFr.out.own HO.out (fun _ _ h => h)).alloc _) (own_litE w5 w5.heap.size _ 4 _ rfl rfl (Nat.le_refl _) (by decide)) (by rw [hereL_len]; omega) (by have h0 := HF.out.size; have h1 := HFr.out.size; rw [World.size_alloc]; omega) ?_; intro A9 c9 w9 ho9 hf9; rw [HTK.out] at ho9; have HO9 : Aside0 (OwnsEv w1.heap.size w9 (.slice A9 (2 * k + 4) c9) (kickL k V)) := ⟨ho9⟩; have HF9 := Aside0.mk (((HF.out.trans HFr.out (fun _ _ h => h)).alloc _).trans hf9 (fun i hi hs => by have := (own_old HO.out hs).1; omega)); clear ho9 hf9) | (go_simp; (first | (go_at_call 12; (with_reducible refine (HC1.out _).mono ?_); unfold QV evV; rintro e4 w4 ⟨rfl, hf4⟩; (first | (have hb4 := hf4.blk (blk_new _ (.cells #[.int .u8 X] 5)) (fun h => h); have hcv4 := kst _ _ hb4; have HB4 := Aside0.mk hb4; clear hb4) | skip); have HFr : Aside0 (Fr nope wr w4) := ⟨by first | exact HFr.out.trans hf4 (fun _ _ h => h) | exact (HFr.out.alloc _).trans hf4 (fun _ _ h => h) | exact (HFr.out.drew).trans hf4 (fun _ _ h => h) | exact ((HFr.out.drew).alloc _).trans hf4 (fun _ _ h => h) | exact ((HFr.out.alloc _).drew).trans hf4 (fun _ _ h => h)⟩; clear hf4) | (go_at_call 12; (with_reducible refine (HC2.out _).mono ?_); unfold QV evV; rintro e6 w6 ⟨rfl, hf6⟩; have HFr : Aside0 (Fr nope wr w6) := ⟨by first | exact HFr.out.trans hf6 (fun _ _ h => h) | exact (HFr.out.alloc _).trans hf6 (fun _ _ h => h) | exact (HFr.out.drew).trans hf6 (fun _ _ h => h) | exact ((HFr.out.drew).alloc _).trans hf6 (fun _ _ h => h) | exact ((HFr.out.alloc _).drew).trans hf6 (fun _ _ h => h)⟩; clear hf6) | (go_at_call 13; (with_reducible refine (HCA.out _).mono ?_); unfold QV evV; rintro e5 w5 ⟨rfl, hf5⟩; (first | (have hb5 := hf5.blk HB4.out (fun h => h); have hcv5 := kst _ _ hb5; clear hb5) | (have hb5 := hf5.blk (blk_new _ (.cells #[.int .u8 X] 5)) (fun h => h); have hcv5 := kst _ _ hb5; clear hb5) | skip); have HFr : Aside0 (Fr nope wr w5) := ⟨by first | exact HFr.out.trans hf5 (fun _ _ h => h) | exact (HFr.out.alloc _).trans hf5 (fun _ _ h => h) | exact (HFr.out.drew).trans hf5 (fun _ _ h => h) | exact ((HFr.out.drew).alloc _).trans hf5 (fun _ _ h => h) | exact ((HFr.out.alloc _).drew).trans hf5 (fun _ _ h => h)⟩; clear hf5))))
        all_goals
          go_wp2
          go_meet
          exact ⟨A9, c9, rfl, HO9, HF9⟩
      case rest =>
        obtain ⟨A9, c9, rfl, HO9, HF9⟩ := hcut
        have hko := kick_ok k (by omega) hu2 V hvU hv2
        have hkf := kick_facts hko
        obtain ⟨f1, f2, f3, f4, f5, f6, f7, f8, f9, f10, f11⟩ := hkf
        have HRD := Aside0.mk (reads_of_own HO9.out f1 (by rw [f2]; omega))
        obtain ⟨s8, hs8⟩ : ∃ s, s = strOfNums ((run (kickL k V) (stNew cfD)).2.getD (2 * k + 3) (0, [])).2 := ⟨_, rfl⟩
        rw [← hs8] at f6 f7
        have HPL : Aside0 (∀ W, Fr nope wc W → Calls Tryz.prog 15 #[.agg #[.int .i64 4096, .int .i64 512, .int .i64 2048, .int .i64 256, .int .i64 3, .int .i64 100, .int .i64 0, .int .i64 80], .slice A9 (2 * k + 4) c9] W fun e w' => ∃ L o g c, e = .returned (.tuple #[.pointer (some ⟨L.bg, 0, none⟩), .slice (some ⟨g, 0, none⟩) (2 * k + 4) c, .bool true]) ∧ Rep w' L o (run (kickL k V) (stNew cfD)).1 ∧ w'.cell? ⟨g, (2 * k + 3) * 2 + 1, none⟩ = some (.string s8) ∧ Fr nope W w') := ⟨fun W hF => by
          rw [hs8]
          exact kick_played k V hu9 hko A9 c9 W (HLIB.out.fr ((HF1.out.trans HF9.out (fun _ _ h => h)).trans hF (fun _ _ h => h)) (fun _ _ h => h)) (readsEv_frS HRD.out hF (fun _ _ _ h => h))⟩
        have HMSG : Aside0 (∀ W : World, _) := ⟨kick_msgs s8 f6 f7⟩
        have kcv : ∀ W, (convert 9 29 (.string s8)).run Tryz.prog W = .ok (.slice (some ⟨W.heap.size, 0, none⟩) s8.size (grownCap W s8.size 0 5)) (Lib.bytesWorld W 5 s8) := fun W => Lib.run_convert_string_bytes W 9 29 5 s8 Tryz.underlying9 Tryz.underlying29 Tryz.underlying5
        obtain ⟨S9, hS9⟩ : ∃ S9, S9 = (run (kickL k V) (stNew cfD)).1 := ⟨_, rfl⟩
        rw [← hS9] at HPL f8 f9 f10 f11
        have F8 := Aside0.mk f8
        have F9 := Aside0.mk f9
        have F10 := Aside0.mk f10
        have F11 := Aside0.mk f11
        have hVw := wf255 (i := (V : Int)) (by omega) (by omega)
        clear hko f1 f2 f3 f4 f5 f6 f7 f8 f9 f10 f11 hs8 hS9
        have hkk : k = 2 ∨ k = 3 ∨ k = 4 ∨ k = 5 ∨ k = 6 ∨ k = 7 ∨ k = 8 ∨ k = 9 := by omega
        clear hx1 hx2 hw1 hw2 hv hcc kst kst2 kst3 hnle hk hT'
        rcases hkk with rfl | rfl | rfl | rfl | rfl | rfl | rfl | rfl
        all_goals
          simp only [Nat.reduceMul, Nat.reduceAdd, Nat.reduceSub] at HPL F10 F11
          go_wp2_with (first | (go_at_call 20; (with_reducible refine (default_calls _).mono ?_); unfold cfV cfD; rintro e2 w2 ⟨rfl, hf2⟩; have HF2 := Aside0.mk (Fr.of_below (S := nope) hf2); clear hf2) | (go_at_call 15; (with_reducible refine (HPL.out _ HF2.out).mono ?_); rintro e3 w3 ⟨L3, o3, g3, c3, rfl, hr3, p8, hf3⟩; have HR3 := Aside0.mk hr3; have HF3 := Aside0.mk (HF2.out.trans hf3 (fun _ _ h => h)); clear hr3 hf3) | (go_at_call 18; (with_reducible refine (HMSG.out w3).mono ?_); rintro e4 w4 ⟨g4, c4, rfl, hf4, m0, m1, m2, m3⟩; have HR4 := Aside0.mk (HR3.out.quiet ((fr_bytes (Fr.refl nope w3) 5 s8).trans hf4 (fun _ _ h => h))); have HF4 := Aside0.mk (HF3.out.trans ((fr_bytes (Fr.refl nope w3) 5 s8).trans hf4 (fun _ _ h => h)) (fun _ _ h => h)); clear hf4) | (go_at_call 24; (with_reducible refine (brole_calls _ L3 o3 S9 V HR4.out hVw).mono ?_); rintro e5 w5 ⟨rfl, hw5⟩; have hw5 := hw5.symm; subst hw5; rw [F8.out]) | (go_at_call 21; (with_reducible refine (bholder_calls _ L3 o3 S9 HR4.out).mono ?_); rintro e6 w6 ⟨rfl, hw6⟩; have hw6 := hw6.symm; subst hw6; rw [F9.out]) | (go_at_call 22; (with_reducible refine (busers_calls _ L3 o3 S9 HR4.out).mono ?_); rintro e7 w7 ⟨v7, rfl, ho7, hf7⟩; rw [F10.out] at ho7; obtain ⟨A7, c7, rfl⟩ := own_slice ho7; have HR7 := Aside0.mk (HR4.out.quiet hf7); have m0 := fr_cell hf7 m0; have HF7 := Aside0.mk (HF4.out.trans hf7 (fun _ _ h => h)); clear ho7 hf7) | (go_at_call 25; (with_reducible refine (bconns_calls _ L3 o3 S9 HR7.out).mono ?_); rintro e8 w8 ⟨v8, rfl, ho8, hf8⟩; rw [ids_conns HR7.out, F11.out] at ho8; obtain ⟨A8, c8, rfl⟩ := own_slice ho8; have HF8 := Aside0.mk (HF7.out.trans hf8 (fun _ _ h => h)); clear ho8 hf8))
          go_returns
          exact ⟨rfl, (HF1.out.trans HF9.out (fun _ _ h => h)).trans HF8.out (fun _ _ h => h)⟩
end Go.Proofs.YtfkamoiamebngaaGreatDoor.BroW

/- The row of WholeKick: for every input the law returns true, and each argument reads behind the call as it read before. No condition. -/
namespace Go.Proofs.YtfkamoiamebngaaGreatDoor.wholeKick
open Go.Proofs.YtfkamoiamebngaaGreatDoor.BroW Go.Proofs.YtfkamoiamebngaaGreatDoor.Fr
open Go.ChangeShapes Go.WideShapes Go.ChangeAt Go.RowKit
open Go.ChangeMaps (open_string shut_string)
open Go.Proofs.YtfkamoiamebngaaGreatDoor.Openers
set_option linter.unusedVariables false
set_option maxRecDepth 100000 in
theorem lifted (os : Os) (started : os.Started) (H : Type) (enc : TypeId × Value → H) :
    ReturnsInHanded {} Tryz.checked os 8 .any (fun w args => (Rows.wholeKickSpec.pre enc Tryz.prog Tryz.f8 Rows.wholeKickRow.domain false w args ∧ laidMetH Tryz.prog laid5 w) ∧ sizedMet enc Tryz.prog Tryz.f8 (OpenSpec.ofChange Rows.wholeKickSpec) false w args)
      (Rows.wholeKickSpec.post enc Tryz.prog Tryz.f8 false true false false) := by
  refine returnsInHanded_of_change_and (C := Tryz.checked) (X := fun w _ => laidMetH Tryz.prog laid5 w) (fun _ _ _ hh h => h.of_heap hh) ownKnob_no started (by kernel_rfl) Tryz.func8
    (ChangeSpec.witness_shaped (enc := enc) (C := Tryz.checked) (os := os) (X := fun w _ => laidMetH Tryz.prog laid5 w) false (World.doorLaid Tryz.prog 62 os) #[.int .i64 0, .int .i64 0] 8 rfl (door_shaped os _) (by kernel_rfl) (by kernel_rfl) (by kernel_rfl) (door_met os _)) ?_
  intro W base args ds gs before hval0 hW hcnd hsz0 hL _
  have hsz : (DataW.weightsEach Tryz.prog (Tryz.f8.params.toList ++ Rows.wholeKickSpec.plain.varTypes Tryz.prog) (ds ++ gs)).all (· ≤ reachBytes) = true := hsz0
  have hval : ∀ (j : Nat) t v, Tryz.f8.params[j]? = some t → args[j]? = some v → Value.okWide Tryz.prog W .any base t v := hval0
  have hW' := hW
  obtain ⟨p, q, hA0, hV, rfl, hfz, hnd⟩ := hW
  have hA : DataW.TrodAll enc Tryz.prog W 0 (fun _ => true) true Tryz.f8.params.toList args.toList ds p := hA0
  rw [Tryz.params8] at hA hval hsz
  obtain ⟨v0, vs0, d0, ds0, p0, q0, hargs, rfl, rfl, h0, r0⟩ := trodAll_cons hA
  obtain ⟨v1, vs1, d1, ds1, p1, q1, rfl, rfl, rfl, h1, r1⟩ := trodAll_cons r0
  obtain ⟨rfl, rfl, rfl⟩ := trodAll_nil r1
  obtain rfl : args = #[v0, v1] := by cases args; simp_all
  obtain ⟨rfl, rfl⟩ := trodVars_none hV
  obtain ⟨a0, rfl, rfl, rfl, w0⟩ := open_int Tryz.underlying3 (hval 0 3 v0 rfl rfl) h0
  obtain ⟨a1, rfl, rfl, rfl, w1⟩ := open_int Tryz.underlying3 (hval 1 3 v1 rfl rfl) h1
  have HLIB := libOK_of_laid hL
  clear hA0 hval0 hsz0 hL
  refine (kick_calls a0 a1 W HLIB).mono fun e W' ⟨he, hfr⟩ => ?_
  have bel : Below W.heap.size W W' := hfr.to_below (Nat.le_refl _) (fun _ h => h.elim)
  subst he
  exact ⟨_, rfl, _, _, _, [], _, [], hW', trodAll_mk1 (shut_bool Tryz.underlying4 _), (trodAll_cons_mk (shut_int Tryz.underlying3 w0) (trodAll_cons_mk (shut_int Tryz.underlying3 w1) trodAll_mk0)), rfl, bel.frame _, fun h => by cases h⟩
theorem over : Rows.wholeKickRow.holds Tryz.pinned (OpenSpec.ofChange Rows.wholeKickSpec) :=
  OpenClaim.holds_of_wide 8 Tryz.f8 rfl rfl rfl rfl rfl rfl rfl ⟨rfl, rfl, rfl, rfl, rfl⟩ rfl rfl rfl rfl rfl (by kernel_rfl) Tryz.func8 (by kernel_rfl)
    (of_decide_eq_true (by kernel_rfl)) (by unfold Func.isWrapper; first | (rw [if_pos (by decide +kernel)]; kernel_rfl) | (rw [if_neg (by decide +kernel)]; exact ⟨rfl, rfl⟩))
    (fun os started H enc _ => lifted os started H enc)
end Go.Proofs.YtfkamoiamebngaaGreatDoor.wholeKick
namespace Go.Proofs.YtfkamoiamebngaaGreatDoor
/-- The row. -/
theorem wholeKick_row : Rows.WholeKickSaid := wholeKick.over
/-- The tied card: the row, with the listed variables tied to the program's text. -/
theorem wholeKick_holds : Rows.WholeKickCardSaid :=
  Claim7.holds_tied_plain_at .later [] [.data, .data, .data, .sentinel, .sentinel] true (true, "b7a23f3f368572dcbfca7fbf3647117a06bbe60edbc6d71d68e3d0a3f79b162f") true
    wholeKick_row (fun _ h => by cases h) (by kernel_rfl) (fun _ h => by cases h) wholeKick_row_tie rfl ⟨rfl, rfl⟩ (by kernel_rfl) rfl
    (fun f fn hf hfn => by
      obtain rfl : f = 8 := Option.some.inj ((show Tryz.prog.funcNamed "kibitzer/kibitzertop.WholeKick" = some 8 by kernel_rfl).symm.trans hf) |>.symm
      obtain rfl : fn = Tryz.f8 := (Option.some.inj (Tryz.func8.symm.trans hfn)).symm
      exact ⟨by kernel_rfl, fun j t ht => by
        rw [Tryz.params8] at ht
        have hm : t ∈ [3, 3] := by simpa using Array.mem_of_getElem? ht
        have hall : ([3, 3].all fun u => !Tryz.prog.wantsStandIn u) = true := by kernel_rfl
        exact (show Tryz.prog.wantsStandIn t = false by simpa using List.all_eq_true.1 hall t hm)⟩)
    (by kernel_rfl)
#print axioms wholeKick_holds
end Go.Proofs.YtfkamoiamebngaaGreatDoor
