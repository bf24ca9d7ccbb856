/- kibitzertop: WholeDenied, the walk. -/
import Derived.Test.YtfkamoiamebngaaGreatDoorM24
import Derived.Test.YtfkamoiamebngaaGreatDoorM22
import Derived.SevenTiedAt
import Derived.LaidMore
import Derived.Handed
import Derived.WalkKit
import Derived.ProofKit
import Derived.OpenShut
import Derived.ShutString
import Derived.ChangeOld
import Derived.Below
import Derived.SizedLaws
namespace Go.Proofs.YtfkamoiamebngaaGreatDoor.BroW
open Go.RowKit Go.Proofs.YtfkamoiamebngaaGreatDoorW.PrintWords Go.Proofs.YtfkamoiamebngaaGreatDoorW.PrintMore Go.Proofs.YtfkamoiamebngaaGreatDoor.Fr Go.Proofs.YtfkamoiamebngaaGreatDoor.ScrW Go.Proofs.YtfkamoiamebngaaGreatDoor.ScrP Go.Proofs.YtfkamoiamebngaaGreatDoor.Mod
set_option linter.unusedVariables false
set_option linter.unusedSimpArgs false

theorem ext_prefix {s W : ByteArray} (h : W.data.toList <+: s.data.toList) : s.extract 0 W.size = W := by
  apply bytes_ext
  obtain ⟨t, ht⟩ := h
  have h1 : (s.extract 0 W.size).data.toList = s.data.toList.take W.size := by
    rw [ByteArray.data_extract]
    simp
  rw [h1, ← ht, List.take_left' (by simp)]

set_option maxRecDepth 100000 in
set_option maxHeartbeats 16000000 in
theorem denied_calls (s : ByteArray) (w : World) (hlib : LibOK w) (hsm : s.size ≤ 140737488351232) :
    Calls Tryz.prog 6 #[.string s] w fun e w' => e = .returned (.bool true) ∧ Fr nope w w' := by
  have HLIB := Aside0.mk hlib
  clear hlib
  by_cases hs : s.size ≤ 60
  case neg =>
    have hs1 : (60 : Int) < (s.size : Int) := by omega
    clear hs
    go_enter Tryz.func6, Tryz.ntmps6
    go_wp2_with (first | (go_at_call 9; (with_reducible refine (alive_calls _ HLIB.out).mono ?_); rintro e1 w1 ⟨rfl, hf1⟩; have HF1 := Aside0.mk hf1; clear hf1))
    go_returns
    exact ⟨rfl, HF1.out⟩
  have hs1 : ¬ (60 : Int) < (s.size : Int) := by omega
  go_enter Tryz.func6, Tryz.ntmps6
  go_wp2_with (first | (go_at_call 9; (with_reducible refine (alive_calls _ HLIB.out).mono ?_); rintro e1 w1 ⟨rfl, hf1⟩; have HF1 := Aside0.mk hf1; clear hf1))
  have HB : Aside0 ((w1.alloc (.cells #[.string ⟨#[102, 108, 111, 111, 114]⟩, .string ⟨#[100, 114, 111, 112]⟩, .string ⟨#[108, 105, 115, 116]⟩, .string ⟨#[100, 101, 116, 97, 99, 104]⟩, .string ⟨#[114, 101, 112, 108, 97, 121]⟩] 9)).heap[w1.heap.size]? = some (.cells #[.string ⟨#[102, 108, 111, 111, 114]⟩, .string ⟨#[100, 114, 111, 112]⟩, .string ⟨#[108, 105, 115, 116]⟩, .string ⟨#[100, 101, 116, 97, 99, 104]⟩, .string ⟨#[114, 101, 112, 108, 97, 121]⟩] 9 (0, 0))) := ⟨blk_new _ _⟩
  go_loopw [20] (fun v20 wr => ∃ (k : Nat), v20 = .int .i64 k ∧ k ≤ 5 ∧ Aside0 (∀ j, j < k → ¬ ownWords.getD j [] <+: s.data.toList) ∧ Aside0 (Fr nope (w1.alloc (.cells #[.string ⟨#[102, 108, 111, 111, 114]⟩, .string ⟨#[100, 114, 111, 112]⟩, .string ⟨#[108, 105, 115, 116]⟩, .string ⟨#[100, 101, 116, 97, 99, 104]⟩, .string ⟨#[114, 101, 112, 108, 97, 121]⟩] 9)) wr)) (fun v20 _ => 5 - (intOf v20).toNat)
  case atStart => exact ⟨0, rfl, by decide, ⟨fun j hj => by omega⟩, ⟨Fr.refl _ _⟩⟩
  case round =>
    obtain ⟨k, rfl, hk, HP, HF⟩ := hrel
    by_cases hlt : k < 5
    · have hB := HF.out.blk HB.out (fun h => h)
      obtain ⟨W, hW⟩ : ∃ W : ByteArray, W = ⟨(ownWords.getD k []).toArray⟩ := ⟨_, rfl⟩
      have hcell : wr.cell? ⟨w1.heap.size, k, none⟩ = some (.string W) := by
        rw [blk_cell hB k, hW]
        match k, hlt with
        | 0, _ | 1, _ | 2, _ | 3, _ | 4, _ => rfl
      have hkk : (k : Int) < 5 := by omega
      have hk0 : (0 : Int) ≤ (k : Int) := by omega
      have hWz : W.size ≤ 6 := by
        rw [hW]
        match k, hlt with
        | 0, _ | 1, _ | 2, _ | 3, _ | 4, _ => decide
      have hbl := blk_lt hB
      clear hB
      have HW := Aside0.mk hW
      have hw2 : IntKind.i64.wrap ((k : Int) + 1) = ((k + 1 : Nat) : Int) := by rw [IntKind.wrap_i64]; push_cast; omega
      have HNX : Aside0 ((¬ W.data.toList <+: s.data.toList) → ∀ j, j < k + 1 → ¬ ownWords.getD j [] <+: s.data.toList) := ⟨fun h j hj => by
        by_cases e : j = k
        · rw [e]; rw [HW.out] at h; exact h
        · exact HP.out j (by omega)⟩
      clear hW
      by_cases hge : W.size ≤ s.size
      · have hge1 : (W.size : Int) ≤ (s.size : Int) := by omega
        cases he : ((s.extract 0 W.size).toList == W.toList)
        · have HNP := Aside0.mk (HNX.out (fun hp => by
            rw [ext_prefix hp] at he
            simp at he))
          clear hge
          go_wp2
          refine ⟨⟨k + 1, ?_, by omega, HNP, HF⟩, ?_⟩
          · first | rfl | (push_cast; rfl)
          · simp only [intOf]; omega
        · clear hge
          go_wp2
          go_returns
          exact ⟨rfl, (HF1.out.alloc _).trans HF.out (fun _ _ h => h)⟩
      · have hge1 : ¬ (W.size : Int) ≤ (s.size : Int) := by omega
        have HNP := Aside0.mk (HNX.out (fun hp => by
          have h1 := hp.length_le
          have h2 : W.data.toList.length = W.size := by simp
          have h3 : s.data.toList.length = s.size := by simp
          omega))
        clear hge
        go_wp2
        refine ⟨⟨k + 1, ?_, by omega, HNP, HF⟩, ?_⟩
        · first | rfl | (push_cast; rfl)
        · simp only [intOf]; omega
    · have hk5 : k = 5 := by omega
      subst hk5
      rename World => wL
      have HPW : Aside0 (∀ w ∈ ownWords, ¬ w <+: s.data.toList) := ⟨fun w hw => by
        obtain ⟨j, hj, rfl⟩ := List.mem_iff_getElem.1 hw
        have h := HP.out j (by simpa [ownWords] using hj)
        rwa [List.getD_eq_getElem?_getD, List.getElem?_eq_getElem hj] at h⟩
      have HFw : Aside0 (Fr nope w wL) := ⟨(HF1.out.alloc _).trans HF.out (fun _ _ h => h)⟩
      clear hlt hk HP
      have kcv : ∀ W, (convert 9 29 (.string s)).run Tryz.prog W = .ok (.slice (some ⟨W.heap.size, 0, none⟩) s.size (grownCap W s.size 0 5)) (Lib.bytesWorld W 5 s) := fun W => Lib.run_convert_string_bytes W 9 29 5 s Tryz.underlying9 Tryz.underlying29 Tryz.underlying5
      have HRB := Aside0.mk (bytes_reads wL 5 s (by omega))
      go_wp2
      go_loopw [41] (fun v41 wq => ∃ (i : Nat), v41 = .int .i64 i ∧ i ≤ s.size ∧ Aside0 (∀ j, j < i → (bytesOf s).getD j 0 ≠ 10) ∧ Aside0 (Fr nope (Lib.bytesWorld wL 5 s) wq)) (fun v41 _ => s.size - (intOf v41).toNat)
      case atStart => exact ⟨0, rfl, Nat.zero_le _, ⟨fun j hj => by omega⟩, ⟨Fr.refl _ _⟩⟩
      case round =>
        obtain ⟨i, rfl, hi, HN, HFq⟩ := hrel
        have hbl : (bytesOf s).length = s.size := bytesOf_length s
        by_cases hlt : i < s.size
        · obtain ⟨x, hx⟩ : ∃ x, rd (bytesOf s) (i : Int) = x := ⟨_, rfl⟩
          have hr := HFq.out.reads HRB.out (fun _ _ h => h)
          have hc := cell_zero hr (by omega) hx
          have hadd : (⟨wL.heap.size, 0, none⟩ : Addr).add i = ⟨wL.heap.size, i, none⟩ := by unfold Addr.add; split <;> simp_all
          rw [hadd] at hc
          have hii : (i : Int) < (s.size : Int) := by omega
          have hi0 : (0 : Int) ≤ (i : Int) := by omega
          have hw2 : IntKind.i64.wrap ((i : Int) + 1) = ((i + 1 : Nat) : Int) := by rw [IntKind.wrap_i64]; push_cast; omega
          have hbk := World.block_lt_of_cell? _ _ hc
          have HX := Aside0.mk hx
          clear hr hadd hx hbl
          by_cases h10 : x = 10
          · subst h10
            go_wp2
            go_returns
            exact ⟨rfl, (fr_bytes HFw.out 5 s).trans HFq.out (fun _ _ h => h)⟩
          · have t1 : (x == 10) = false := by simpa using h10
            have HN1 : Aside0 (∀ j, j < i + 1 → (bytesOf s).getD j 0 ≠ 10) := ⟨fun j hj => by
              by_cases e : j = i
              · subst e
                have h := HX.out
                unfold rd at h
                rw [Int.toNat_natCast] at h
                rw [h]; exact h10
              · exact HN.out j (by omega)⟩
            clear h10
            go_wp2
            refine ⟨⟨i + 1, ?_, by omega, HN1, HFq⟩, ?_⟩
            · first | rfl | (push_cast; rfl)
            · simp only [intOf]; omega
        · have hin : i = s.size := by omega
          subst hin
          have h10 : ∀ x ∈ bytesOf s, x ≠ 10 := fun x hx => by
            obtain ⟨j, hj, rfl⟩ := List.mem_iff_getElem.1 hx
            have h := HN.out j (by omega)
            rwa [List.getD_eq_getElem?_getD, List.getElem?_eq_getElem hj] at h
          have HOK := Aside0.mk (denied_ok s hs h10 HPW.out)
          have HFq2 : Aside0 (Fr nope w wr) := ⟨(fr_bytes HFw.out 5 s).trans HFq.out (fun _ _ h => h)⟩
          clear hlt h10 hi hbl kcv hs
          obtain ⟨s8, hs8⟩ : ∃ x, x = strOfNums ((run (deniedL s) (stNew cfD)).2.getD 8 (0, [])).2 := ⟨_, rfl⟩
          obtain ⟨S9, hS9⟩ : ∃ x, x = (run (deniedL s) (stNew cfD)).1 := ⟨_, rfl⟩
          obtain ⟨o1, o2, o3, o4, o5, o6, o7, o8, o9⟩ := HOK.out
          rw [← hs8] at o6 o7
          rw [← hS9] at o8 o9
          have F8 := Aside0.mk o8
          have F9 := Aside0.mk o9
          have HPL : Aside0 (∀ (B : Option Addr) (cB : Nat) (W : World) (b0 : Nat), Fr nope w W → OwnsEv b0 W (.slice B 9 cB) (deniedL s) → Calls Tryz.prog 15 #[.agg #[.int .i64 4096, .int .i64 512, .int .i64 2048, .int .i64 256, .int .i64 3, .int .i64 100, .int .i64 0, .int .i64 80], .slice B 9 cB] W fun e w' => ∃ L o g c, e = .returned (.tuple #[.pointer (some ⟨L.bg, 0, none⟩), .slice (some ⟨g, 0, none⟩) 9 c, .bool true]) ∧ Rep w' L o S9 ∧ w'.cell? ⟨g, 15, none⟩ = some (.string ⟨#[]⟩) ∧ w'.cell? ⟨g, 17, none⟩ = some (.string s8) ∧ Fr nope W w') := ⟨fun B cB W b0 hF ho => by
            have hR : ReadsEv W B (deniedL s) := reads_of_own ho o1 (by rw [deniedL_len]; omega)
            have hq := played_calls cfD (deniedL s) B cB W (HLIB.out.fr hF (fun _ _ h => h)) cfD_right o1 o3 (by rw [deniedL_len]; omega) o4 hR
            rw [deniedL_len] at hq
            refine hq.mono ?_
            rintro e w' ⟨L', o', x, rfl, q1, q2, q3, q4, q5⟩
            rw [o2] at q4
            obtain ⟨A1, c1, rfl⟩ := own_slice q4
            obtain ⟨g, rfl⟩ := own_some q4 (by omega)
            refine ⟨L', o', g, c1, rfl, by rw [hS9]; exact q1, ?_, ?_, q2⟩
            · rw [← o5]; exact own_cellAt q4 15 _ (outs_at _ 7 (by rw [o2]; omega))
            · rw [hs8]; exact own_cellAt q4 17 _ (outs_at _ 8 (by rw [o2]; omega))⟩
          have HMSG : Aside0 (∀ W : World, Calls Tryz.prog 18 #[.slice (some ⟨W.heap.size, 0, none⟩) s8.size (grownCap W s8.size 0 5)] (Lib.bytesWorld W 5 s8) fun e w' => ∃ g c, e = .returned (.tuple #[.slice (some ⟨g, 0, none⟩) 1 c, .bool true]) ∧ Fr nope (Lib.bytesWorld W 5 s8) w' ∧ w'.cell? ⟨g, 0, none⟩ = some (.int .i64 11) ∧ w'.cell? ⟨g, 1, none⟩ = some (.int .i64 0) ∧ w'.cell? ⟨g, 2, none⟩ = some (.int .i64 0) ∧ w'.cell? ⟨g, 3, none⟩ = some (.string s)) := ⟨fun W => by
            have hq := msgs_calls s8 W o6
            rw [o7] at hq
            refine hq.mono ?_
            rintro e w' ⟨v, rfl, q1, q2⟩
            have q1' : w'.ownsRow (Lib.bytesWorld W 5 s8).heap.size 39 4 v 1 (mgs [denM s]) := q1
            obtain ⟨A1, c1, rfl⟩ := own_slice q1'
            obtain ⟨g, rfl⟩ := own_some q1' (by decide)
            exact ⟨g, c1, rfl, q2, own_cellAt q1' 0 _ rfl, own_cellAt q1' 1 _ rfl, own_cellAt q1' 2 _ rfl, own_cellAt q1' 3 _ rfl⟩⟩
          have kcv : ∀ W, (convert 9 29 (.string s8)).run Tryz.prog W = .ok (.slice (some ⟨W.heap.size, 0, none⟩) s8.size (grownCap W s8.size 0 5)) (Lib.bytesWorld W 5 s8) := fun W => Lib.run_convert_string_bytes W 9 29 5 s8 Tryz.underlying9 Tryz.underlying29 Tryz.underlying5
          have HCM : Aside0 (∀ W, Calls Tryz.prog 12 #[.int .i64 2, .string s] W (QV W (cmdE 2 s))) := ⟨fun W => command_calls 2 s W (by omega)⟩
          clear o1 o2 o3 o4 o5 o6 o7 o8 o9 hs8 hS9
          go_wp2_with (first | (go_at_call 11; (with_reducible refine (comes_calls 1 true 0 _).mono ?_); rintro e3 w3 ⟨v3, rfl, ho3, hf3⟩; obtain ⟨A3, c3, rfl⟩ := own_slice ho3; have HO3 := Aside0.mk ho3; have HF3 := Aside0.mk hf3; clear ho3 hf3) | (go_at_call 11; (with_reducible refine (comes_calls 2 true 0 _).mono ?_); rintro e4 w4 ⟨v4, rfl, ho4, hf4⟩; obtain ⟨A4, c4, rfl⟩ := own_slice ho4; have HO4 := Aside0.mk ho4; have HF4 := Aside0.mk (HF3.out.trans hf4 (fun _ _ h => h)); have HO34 := Aside0.mk (hf4.own HO3.out (fun _ _ h => h)); clear ho4 hf4) | ((with_reducible refine gate_builtin (b := .append) (xs := #[.tmp 48, .tmp 49]) rfl ?_); at_builtin; refine app_evs rfl (.tmp 48) (.tmp 49) rfl wr.heap.size w3.heap.size (.slice A3 2 c3) (comesL 1 true 0) (comesL 2 true 0) A4 2 c4 4 rfl rfl (by decide) rfl rfl HO34.out HO4.out (by decide) HF4.out.size ?_; intro A5 c5 w5 ho5 hf5; have HO5 := Aside0.mk ho5; have HF5 := Aside0.mk (HF4.out.trans hf5 (fun i hi hs => by have h1 := (own_old HO34.out hs).1; omega)); have HFr := Aside0.mk (Fr.refl nope w5); clear ho5 hf5) | (go_at_call 13; (first | (with_reducible refine (allE_calls 1 _).mono ?_) | (with_reducible refine (allE_calls 2 _).mono ?_)); unfold QV evV; rintro e6 w6 ⟨rfl, hf6⟩; have HFr : Aside0 (Fr nope w5 w6) := ⟨HFr.out.trans hf6 (fun _ _ h => h)⟩; clear hf6) | (go_at_call 12; (with_reducible refine (HCM.out _).mono ?_); unfold QV evV; rintro e6 w6 ⟨rfl, hf6⟩; have HFr : Aside0 (Fr nope w5 w6) := ⟨HFr.out.trans hf6 (fun _ _ h => h)⟩; clear hf6) | ((with_reducible refine gate_builtin (b := .append) (xs := #[.tmp 50, .tmp 57]) rfl ?_); at_builtin; refine app_evs rfl (.tmp 50) (.tmp 57) rfl wr.heap.size w6.heap.size (.slice A5 4 c5) (comesL 1 true 0 ++ comesL 2 true 0) [allE 1, allE 2, cmdE 2 s, allE 1, allE 2] (some ⟨w6.heap.size, 0, none⟩) 5 5 9 rfl rfl (by decide) rfl rfl ((HFr.out.own HO5.out (fun _ _ h => h)).alloc _) (own_litE w6 w6.heap.size _ 5 _ rfl rfl (Nat.le_refl _) (by decide)) (by decide) (by have h0 := HF5.out.size; have h1 := HFr.out.size; rw [World.size_alloc]; omega) ?_; intro A7 c7 w7 ho7 hf7; have HO7 : Aside0 (OwnsEv wr.heap.size w7 (.slice A7 9 c7) (deniedL s)) := ⟨ho7⟩; have HF7 := Aside0.mk (HFq2.out.trans (((HF5.out.trans HFr.out (fun _ _ h => h)).alloc _).trans hf7 (fun i hi hs => by have := (own_old HO5.out hs).1; omega)) (fun _ _ h => h)); clear ho7 hf7) | (go_at_call 20; (with_reducible refine (default_calls _).mono ?_); unfold cfV cfD; rintro e8 w8 ⟨rfl, hf8⟩; have HF8 := Aside0.mk (HF7.out.trans (Fr.of_below (S := nope) hf8) (fun _ _ h => h)); have HO8 : Aside0 (OwnsEv wr.heap.size w8 (.slice A7 9 c7) (deniedL s)) := ⟨(Fr.of_below (S := nope) hf8).own HO7.out (fun _ _ h => h)⟩; clear hf8) | (go_at_call 15; (with_reducible refine (HPL.out A7 c7 w8 _ HF8.out HO8.out).mono ?_); rintro e9 w9 ⟨L9, o9, g9, c9, rfl, hr9, p7, p8, hf9⟩; have HR9 := Aside0.mk hr9; have HF9 := Aside0.mk (HF8.out.trans hf9 (fun _ _ h => h)); clear hr9 hf9) | (go_at_call 18; (with_reducible refine (HMSG.out w9).mono ?_); rintro e10 w10 ⟨g10, c10, rfl, hf10, m0, m1, m2, m3⟩; have HR10 := Aside0.mk (HR9.out.quiet ((fr_bytes (Fr.refl nope w9) 5 s8).trans hf10 (fun _ _ h => h))); have p7 := fr_cell ((fr_bytes (Fr.refl nope w9) 5 s8).trans hf10 (fun _ _ h => h)) p7; have HF10 := Aside0.mk ((fr_bytes HF9.out 5 s8).trans hf10 (fun _ _ h => h)); clear hf10) | (go_at_call 21; (with_reducible refine (bholder_calls _ L9 o9 S9 HR10.out).mono ?_); rintro e11 w11 ⟨rfl, hw11⟩; have hw11 := hw11.symm; subst hw11; rw [F8.out]) | (go_at_call 22; (with_reducible refine (busers_calls _ L9 o9 S9 HR10.out).mono ?_); rintro e12 w12 ⟨v12, rfl, ho12, hf12⟩; rw [F9.out] at ho12; obtain ⟨A12, c12, rfl⟩ := own_slice ho12; have HF12 := Aside0.mk (HF10.out.trans hf12 (fun _ _ h => h)); clear ho12 hf12))
          go_returns
          exact ⟨rfl, HF12.out⟩
end Go.Proofs.YtfkamoiamebngaaGreatDoor.BroW

/- The row of WholeDenied: for every input the law returns true, and each argument reads behind the call as it read before. No condition. -/
namespace Go.Proofs.YtfkamoiamebngaaGreatDoor.wholeDenied
open Go.Proofs.YtfkamoiamebngaaGreatDoor.BroW Go.Proofs.YtfkamoiamebngaaGreatDoor.Fr
open Go.ChangeShapes Go.WideShapes Go.ChangeAt Go.RowKit
open Go.ChangeMaps (open_string shut_string)
open Go.Proofs.YtfkamoiamebngaaGreatDoor.Openers
set_option linter.unusedVariables false
set_option maxRecDepth 100000 in
theorem lifted (os : Os) (started : os.Started) (H : Type) (enc : TypeId × Value → H) :
    ReturnsInHanded {} Tryz.checked os 6 .any (fun w args => (Rows.wholeDeniedSpec.pre enc Tryz.prog Tryz.f6 Rows.wholeDeniedRow.domain false w args ∧ laidMetH Tryz.prog laid5 w) ∧ sizedMet enc Tryz.prog Tryz.f6 (OpenSpec.ofChange Rows.wholeDeniedSpec) false w args)
      (Rows.wholeDeniedSpec.post enc Tryz.prog Tryz.f6 false true false false) := by
  refine returnsInHanded_of_change_and (C := Tryz.checked) (X := fun w _ => laidMetH Tryz.prog laid5 w) (fun _ _ _ hh h => h.of_heap hh) ownKnob_no started (by kernel_rfl) Tryz.func6
    (ChangeSpec.witness_shaped (enc := enc) (C := Tryz.checked) (os := os) (X := fun w _ => laidMetH Tryz.prog laid5 w) false (World.doorLaid Tryz.prog 62 os) #[.string ByteArray.empty] 8 rfl (door_shaped os _) (by kernel_rfl) (by kernel_rfl) (by kernel_rfl) (door_met os _)) ?_
  intro W base args ds gs before hval0 hW hcnd hsz0 hL _
  have hsz : (DataW.weightsEach Tryz.prog (Tryz.f6.params.toList ++ Rows.wholeDeniedSpec.plain.varTypes Tryz.prog) (ds ++ gs)).all (· ≤ reachBytes) = true := hsz0
  have hval : ∀ (j : Nat) t v, Tryz.f6.params[j]? = some t → args[j]? = some v → Value.okWide Tryz.prog W .any base t v := hval0
  have hW' := hW
  obtain ⟨p, q, hA0, hV, rfl, hfz, hnd⟩ := hW
  have hA : DataW.TrodAll enc Tryz.prog W 0 (fun _ => true) true Tryz.f6.params.toList args.toList ds p := hA0
  rw [Tryz.params6] at hA hval hsz
  obtain ⟨v0, vs0, d0, ds0, p0, q0, hargs, rfl, rfl, h0, r0⟩ := trodAll_cons hA
  obtain ⟨rfl, rfl, rfl⟩ := trodAll_nil r0
  obtain rfl : args = #[v0] := by cases args; simp_all
  obtain ⟨rfl, rfl⟩ := trodVars_none hV
  obtain ⟨a0, rfl, rfl, rfl, y0⟩ := open_string Tryz.underlying9 (hval 0 9 v0 rfl rfl) h0
  have w0 : a0.size ≤ 140737488351232 := by
    have z := sized_string hsz (j := 0) (t := 9) rfl rfl
    rw [Array.length_toList] at z
    exact z
  have HLIB := libOK_of_laid hL
  clear hA0 hval0 hsz0 hL
  refine (denied_calls a0 W HLIB w0).mono fun e W' ⟨he, hfr⟩ => ?_
  have bel : Below W.heap.size W W' := hfr.to_below (Nat.le_refl _) (fun _ h => h.elim)
  subst he
  exact ⟨_, rfl, _, _, _, [], _, [], hW', trodAll_mk1 (shut_bool Tryz.underlying4 _), (trodAll_cons_mk (shut_string Tryz.underlying9 y0) trodAll_mk0), rfl, bel.frame _, fun h => by cases h⟩
theorem over : Rows.wholeDeniedRow.holds Tryz.pinned (OpenSpec.ofChange Rows.wholeDeniedSpec) :=
  OpenClaim.holds_of_wide 6 Tryz.f6 rfl rfl rfl rfl rfl rfl rfl ⟨rfl, rfl, rfl, rfl, rfl⟩ rfl rfl rfl rfl rfl (by kernel_rfl) Tryz.func6 (by kernel_rfl)
    (of_decide_eq_true (by kernel_rfl)) (by unfold Func.isWrapper; first | (rw [if_pos (by decide +kernel)]; kernel_rfl) | (rw [if_neg (by decide +kernel)]; exact ⟨rfl, rfl⟩))
    (fun os started H enc _ => lifted os started H enc)
end Go.Proofs.YtfkamoiamebngaaGreatDoor.wholeDenied
namespace Go.Proofs.YtfkamoiamebngaaGreatDoor
/-- The row. -/
theorem wholeDenied_row : Rows.WholeDeniedSaid := wholeDenied.over
/-- The tied card: the row, with the listed variables tied to the program's text. -/
theorem wholeDenied_holds : Rows.WholeDeniedCardSaid :=
  Claim7.holds_tied_plain_at .later [] [.data, .data, .data, .sentinel, .sentinel] true (true, "b7a23f3f368572dcbfca7fbf3647117a06bbe60edbc6d71d68e3d0a3f79b162f") true
    wholeDenied_row (fun _ h => by cases h) (by kernel_rfl) (fun _ h => by cases h) wholeDenied_row_tie rfl ⟨rfl, rfl⟩ (by kernel_rfl) rfl
    (fun f fn hf hfn => by
      obtain rfl : f = 6 := Option.some.inj ((show Tryz.prog.funcNamed "kibitzer/kibitzertop.WholeDenied" = some 6 by kernel_rfl).symm.trans hf) |>.symm
      obtain rfl : fn = Tryz.f6 := (Option.some.inj (Tryz.func6.symm.trans hfn)).symm
      exact ⟨by kernel_rfl, fun j t ht => by
        rw [Tryz.params6] at ht
        have hm : t ∈ [9] := by simpa using Array.mem_of_getElem? ht
        have hall : ([9].all fun u => !Tryz.prog.wantsStandIn u) = true := by kernel_rfl
        exact (show Tryz.prog.wantsStandIn t = false by simpa using List.all_eq_true.1 hall t hm)⟩)
    (by kernel_rfl)
#print axioms wholeDenied_holds
end Go.Proofs.YtfkamoiamebngaaGreatDoor
