/- A script as a plain function on lists: events, their bytes, and back. Plain. -/
import Derived.Test.YthhibgkgbcdjnaaWWords
namespace Go.Proofs.Ythhibgkgbcdjnaa.ScrP
open Go.Proofs.YthhibgkgbcdjnaaW.PrintWords

structure Ev where
  k : Int
  i : Int
  n : Int
  d : ByteArray

def ev0 : Ev := ⟨0, 0, 0, ⟨#[]⟩⟩
def hasI (k : Int) : Bool := decide (k = 0 ∨ k = 1 ∨ k = 2 ∨ k = 6)
def hasN (k : Int) : Bool := decide (k = 2 ∨ k = 4 ∨ k = 7)
def hasD (k : Int) : Bool := decide (k = 1 ∨ k = 3)
/-- can an event be written? -/
def evB (e : Ev) : Bool :=
  decide ((0 ≤ e.k ∧ e.k ≤ 7) ∧ (0 ≤ e.i ∧ e.i ≤ 255) ∧ (0 ≤ e.n ∧ e.n ≤ 65536) ∧ e.d.size ≤ 4000 ∧ (hasI e.k = true ∨ e.i = 0) ∧ (hasN e.k = true ∨ e.n = 0) ∧ (hasD e.k = true ∨ e.d.size = 0))

structure Cf where
  a0 : Int
  a1 : Int
  a2 : Int
  a3 : Int
  a4 : Int
  a5 : Int
  a6 : Int
  a7 : Int
  deriving DecidableEq
def cf0 : Cf := ⟨0, 0, 0, 0, 0, 0, 0, 0⟩
def cfD : Cf := ⟨4096, 512, 2048, 256, 3, 100, 0, 80⟩
def cfB (c : Cf) : Bool :=
  decide ((1 ≤ c.a0 ∧ c.a0 ≤ 65536) ∧ (1 ≤ c.a1 ∧ c.a1 ≤ 2042) ∧ (220 ≤ c.a2 ∧ c.a2 ≤ 65536) ∧ (1 ≤ c.a3 ∧ c.a3 ≤ 65536) ∧ (0 ≤ c.a4 ∧ c.a4 ≤ 9) ∧ (1 ≤ c.a5 ∧ c.a5 ≤ 1000) ∧ (0 ≤ c.a6 ∧ c.a6 ≤ 1000) ∧ (1 ≤ c.a7 ∧ c.a7 ≤ 500))
def cfL (c : Cf) : List Int := [c.a0, c.a1, c.a2, c.a3, c.a4, c.a5, c.a6, c.a7]

/-- numbers as bytes, the highest one first -/
def be3 (n : Int) : List Int := [n / 65536 % 256, n / 256 % 256, n % 256]
def be2 (n : Int) : List Int := [n / 256 % 256, n % 256]
def evBytes (e : Ev) : List Int := [e.k % 256, e.i % 256] ++ be3 e.n ++ be2 e.d.size ++ bytesOf e.d
def cfBytes (c : Cf) : List Int := ((cfL c).map be3).flatten
def encB (c : Cf) (L : List Ev) : List Int := cfBytes c ++ (L.map evBytes).flatten

/-- bytes as a number -/
def rdN (b : List Int) : Int := b.foldl (fun n c => n * 256 + c) 0

/-- the event with which bytes begin: itself, how many bytes it has, and 0; or what is wrong (5: too short; 8: none) -/
def oneP (b : List Int) : Ev × Nat × Nat :=
  if b.length < 7 then (ev0, 0, 5)
  else
    let n := (rdN ((b.take 7).drop 5)).toNat
    if b.length < 7 + n then (ev0, 0, 5)
    else
      let e : Ev := ⟨b.getD 0 0, b.getD 1 0, rdN ((b.take 5).drop 2), strOfNums ((b.take (7 + n)).drop 7)⟩
      if evB e then (e, 7 + n, 0) else (ev0, 0, 8)

/-- the events from a place on: those before, how many bytes, and what ended them -/
def decGo : Nat → List Int → Nat → List Ev → List Ev × Nat × Nat
  | 0, _, at_, out => (out, at_, 0)
  | fuel + 1, b, at_, out =>
    if at_ < b.length then
      let r := oneP (b.drop at_)
      if r.2.2 = 0 then
        if out.length = 8192 then (out, at_, 6) else decGo fuel b (at_ + r.2.1) (out ++ [r.1])
      else (out, at_, r.2.2)
    else (out, at_, 0)
def cfOf (b : List Int) : Cf := ⟨rdN ((b.take 3).drop 0), rdN ((b.take 6).drop 3), rdN ((b.take 9).drop 6), rdN ((b.take 12).drop 9), rdN ((b.take 15).drop 12), rdN ((b.take 18).drop 15), rdN ((b.take 21).drop 18), rdN ((b.take 24).drop 21)⟩
def decP (b : List Int) : Cf × List Ev × Nat × Nat :=
  if 262144 < b.length then (cf0, [], 0, 6)
  else if b.length < 24 then (cf0, [], 0, 5)
  else if cfB (cfOf b) then (cfOf b, decGo b.length b 24 [])
  else (cf0, [], 0, 8)

theorem bytes_ext {a b : ByteArray} (h : a.data.toList = b.data.toList) : a = b := by
  cases a; cases b
  simp at h
  simp [h]
theorem str_bytes (s : ByteArray) : strOfNums (bytesOf s) = s := by
  apply bytes_ext
  simp only [strOfNums, bytesOf]
  rw [List.map_map]
  have h : ((fun n : Int => UInt8.ofNat n.toNat) ∘ fun b : UInt8 => (b.toNat : Int)) = id := by
    funext b
    simp
  simp [h]
def isB (l : List Int) : Prop := ∀ x ∈ l, 0 ≤ x ∧ x ≤ 255

theorem be3_len (n : Int) : (be3 n).length = 3 := rfl
theorem be2_len (n : Int) : (be2 n).length = 2 := rfl
theorem evBytes_len (e : Ev) : (evBytes e).length = 7 + e.d.size := by simp [evBytes, be3, be2, bytesOf_length]; omega
theorem cfBytes_len (c : Cf) : (cfBytes c).length = 24 := rfl
theorem be3_rd (n : Int) (h : 0 ≤ n) (h2 : n ≤ 65536) : rdN (be3 n) = n := by simp [rdN, be3]; omega
theorem be2_rd (n : Int) (h : 0 ≤ n) (h2 : n ≤ 65535) : rdN (be2 n) = n := by simp [rdN, be2]; omega

theorem evB_facts {e : Ev} (h : evB e = true) : (0 ≤ e.k ∧ e.k ≤ 7) ∧ (0 ≤ e.i ∧ e.i ≤ 255) ∧ (0 ≤ e.n ∧ e.n ≤ 65536) ∧ e.d.size ≤ 4000 := by
  unfold evB at h
  have := of_decide_eq_true h
  exact ⟨this.1, this.2.1, this.2.2.1, this.2.2.2.1⟩

/-- an event's bytes, with others behind, are read back as the event -/
theorem one_enc (e : Ev) (rest : List Int) (h : evB e = true) : oneP (evBytes e ++ rest) = (e, 7 + e.d.size, 0) := by
  obtain ⟨⟨h1, h2⟩, ⟨h3, h4⟩, ⟨h5, h6⟩, h7⟩ := evB_facts h
  have hl : (evBytes e ++ rest).length = 7 + e.d.size + rest.length := by rw [List.length_append, evBytes_len]
  have e0 : evBytes e ++ rest = (e.k % 256) :: (e.i % 256) :: (e.n / 65536 % 256) :: (e.n / 256 % 256) :: (e.n % 256) :: ((e.d.size : Int) / 256 % 256) :: ((e.d.size : Int) % 256) :: (bytesOf e.d ++ rest) := by
    simp [evBytes, be3, be2]
  have hn : rdN (((evBytes e ++ rest).take 7).drop 5) = (e.d.size : Int) := by
    rw [e0]
    simp [rdN]
    omega
  have hm : rdN (((evBytes e ++ rest).take 5).drop 2) = e.n := by
    rw [e0]
    simp [rdN]
    omega
  have hd : ((evBytes e ++ rest).take (7 + e.d.size)).drop 7 = bytesOf e.d := by
    rw [e0, Nat.add_comm 7]
    simp only [List.take_succ_cons, List.drop_succ_cons, List.drop_zero]
    rw [List.take_append_of_le_length (by rw [bytesOf_length]; exact Nat.le_refl _), List.take_of_length_le (by rw [bytesOf_length]; exact Nat.le_refl _)]
  have hs : strOfNums (bytesOf e.d) = e.d := str_bytes e.d
  unfold oneP
  rw [if_neg (by omega), hn, Int.toNat_natCast]
  simp only []
  rw [if_neg (by omega), hm, hd, hs]
  have hk : (evBytes e ++ rest).getD 0 0 = e.k := by rw [e0]; simp; omega
  have hi : (evBytes e ++ rest).getD 1 0 = e.i := by rw [e0]; simp; omega
  rw [hk, hi]
  simp only [h, if_true]
end Go.Proofs.Ythhibgkgbcdjnaa.ScrP
