/- The broker as a plain function on lists and numbers. Plain. -/
import Derived.Test.YtfkamoiamebngaaGreatDoorM04
import Derived.Lib.ParseIntB
import Derived.Lib.IndexMore
import Derived.Lib.ItoaNum
import Derived.ArgAppend
import Derived.Deep.MidRow
namespace Go.Proofs.YtfkamoiamebngaaGreatDoor.Mod
open Go.RowKit Go.Proofs.YtfkamoiamebngaaGreatDoorW.PrintWords Go.Proofs.YtfkamoiamebngaaGreatDoor.ScrP Go.Proofs.YtfkamoiamebngaaGreatDoor.LexP Go.Proofs.YtfkamoiamebngaaGreatDoor.BroW
set_option linter.unusedVariables false

/-! ### frames and messages -/
def be6 (n : Int) : List Int := [n / 1099511627776 % 256, n / 4294967296 % 256, n / 16777216 % 256, n / 65536 % 256, n / 256 % 256, n % 256]
/-- a frame's bytes -/
def frB (k : Int) (body : List Int) : List Int :=
  if body.length ≤ 2048 then be2 (body.length + 1) ++ (k :: body) ++ be2 (sumOf (k :: body)) else []
def mBody (m : Mg) : List Int := (if 0 < shN m.k then be6 m.a else []) ++ (if 1 < shN m.k then be6 m.b else []) ++ bytesOf m.t
/-- a message's bytes -/
def mB (m : Mg) : List Int := if mgB m = true then frB m.k (mBody m) else []
def mSize (m : Mg) : Int := 5 + 6 * shN m.k + m.t.size
abbrev Frm := Int × List Int
/-- the frame with which bytes begin, how many it has, and what is wrong -/
def getB (bs : List Int) : Frm × Nat × Int :=
  if bs.length < 2 then ((0, []), 0, 5)
  else
    let n := (bs.getD 0 0 * 256 + bs.getD 1 0).toNat
    if n = 0 ∨ 2049 < n then ((0, []), 0, 6)
    else if bs.length < n + 4 then ((0, []), 0, 5)
    else if sumOf ((bs.take (n + 2)).drop 2) = bs.getD (n + 2) 0 * 256 + bs.getD (n + 3) 0 then ((bs.getD 2 0, (bs.take (n + 2)).drop 3), n + 4, 0)
    else ((0, []), 0, 7)
/-- the message of a frame -/
def mOf (f : Frm) : Mg × Bool :=
  if shO f.1 = false ∨ (f.2.length : Int) < 6 * shN f.1 then (mg0, false)
  else
    let m : Mg := ⟨f.1, if 0 < shN f.1 then rdN (f.2.take 6) else 0, if 1 < shN f.1 then rdN ((f.2.take 12).drop 6) else 0, strOfNums (f.2.drop (6 * shN f.1).toNat)⟩
    if mgB m = true then (m, true) else (mg0, false)
/-- the frames of bytes, what is left, and what is wrong -/
def feedGo : Nat → List Int → List Frm × List Int × Int
  | 0, b => ([], b, 0)
  | f + 1, b =>
    let g := getB b
    if g.2.2 = 0 then
      let r := feedGo f (b.drop g.2.1)
      (g.1 :: r.1, r.2)
    else if g.2.2 = 5 then ([], b, 0) else ([], [], g.2.2)
def feedPush (fb : List Int) (fe : Int) (bs : List Int) : List Frm × List Int × Int :=
  if fe = 0 then feedGo ((fb ++ bs).length + 1) (fb ++ bs) else ([], fb, fe)

/-! ### the floor -/
structure Tb where
  lease : Int
  left : Int
  holder : Int
  queue : List Int
  roles : Int → Option Int
def ids16 : List Int := [1, 2, 3, 4, 5, 6, 7, 8, 9, 10, 11, 12, 13, 14, 15, 16]
def Tb.users (t : Tb) : List Int := ids16.filter fun i => (t.roles i).isSome
def Tb.role (t : Tb) (i : Int) : Int := (t.roles i).getD 0
def Tb.forget (t : Tb) (id : Int) : Tb := { t with queue := t.queue.filter fun x => !(x == id) }
def Tb.grant (t : Tb) (id : Int) : Tb := { t.forget id with holder := id, left := t.lease }
def Tb.pass (t : Tb) : Tb :=
  match t.queue with
  | [] => { t with holder := 0, left := 0 }
  | x :: _ => Tb.grant { t with holder := 0, left := 0 } x
def Tb.lose (t : Tb) (id : Int) : Tb := if t.holder = id then (t.forget id).pass else t.forget id
def Tb.setR (t : Tb) (id : Int) (r : Option Int) : Tb := { t with roles := fun i => if i = id then r else t.roles i }
def Tb.join (t : Tb) (id r : Int) : Tb := if (t.roles id).isSome = true ∨ id < 1 ∨ r < 0 ∨ 2 < r then t else t.setR id (some r)
def Tb.leave (t : Tb) (id : Int) : Tb := if (t.roles id).isSome = true then (t.lose id).setR id none else t
def Tb.setRole (t : Tb) (id r : Int) : Tb × Bool :=
  if (t.roles id).isSome = false ∨ r < 0 ∨ 2 < r then (t, false)
  else if r = 0 then ((t.setR id (some r)).lose id, true) else (t.setR id (some r), true)
def Tb.may (t : Tb) (id : Int) : Int :=
  match t.roles id with
  | none => 2
  | some r => if r = 0 then 4 else if t.holder = id then 3 else 0
def Tb.ask (t : Tb) (id : Int) : Tb × Int :=
  if t.may id = 0 then
    if t.queue.contains id = true then (t, 3)
    else if t.holder = 0 then (t.grant id, 0) else ({ t with queue := t.queue ++ [id] }, 0)
  else (t, t.may id)
def Tb.drop (t : Tb) (id : Int) : Tb × Int :=
  if (t.roles id).isSome = true then
    if t.holder = id ∨ t.queue.contains id = true then (t.lose id, 0) else (t, 3)
  else (t, 2)
def Tb.give (t : Tb) (id : Int) : Tb × Int := if t.may id = 0 then (t.grant id, 0) else (t, t.may id)
def Tb.revoke (t : Tb) : Tb × Int := if t.holder = 0 then (t, 3) else (t.pass, 0)
def Tb.tick (t : Tb) : Tb :=
  if t.holder = 0 then t
  else if 0 < t.left - 1 then { t with left := t.left - 1 }
  else match t.queue with
    | [] => { t with left := t.lease }
    | _ :: _ => Tb.pass { t with left := t.lease }

/-! ### commands -/
def strL (l : List UInt8) : ByteArray := ⟨l.toArray⟩
def wordsL : List (List UInt8) := [[102, 108, 111, 111, 114], [100, 114, 111, 112], [108, 105, 115, 116], [100, 101, 116, 97, 99, 104], [114, 101, 118, 111, 107, 101], [103, 105, 118, 101], [107, 105, 99, 107], [119, 114, 105, 116, 101], [119, 97, 116, 99, 104], [114, 101, 112, 108, 97, 121], [108, 105, 109, 105, 116]]
def ordB (k n : Int) : Bool := decide (1 ≤ k ∧ k ≤ 11 ∧ 0 ≤ n ∧ n ≤ 1099511627776 ∧ (6 ≤ k ∨ n = 0))
def ordStr (k n : Int) : List UInt8 :=
  if ordB k n = true then
    if k < 6 then wordsL.getD (k - 1).toNat [] else wordsL.getD (k - 1).toNat [] ++ [32] ++ Lib.itoa n
  else []
def kindOf (w : List UInt8) : Int := ((wordsL.findIdx? fun x => x == w).map fun i => (i : Int) + 1).getD 0
/-- the command of a line -/
def parseO (s : ByteArray) : Option (Int × Int) :=
  let c := Lib.cut s.data.toList [32]
  let n : Option Int := if c.2.1 = [] then some 0 else match Lib.parseIntB 64 c.2.1 with
    | .ok v => some v
    | _ => none
  match n with
  | none => none
  | some v => if s.data.toList = [] then none else if ordStr (kindOf c.1) v = s.data.toList then some (kindOf c.1, v) else none

/-! ### the ring and views -/
def rbaseM (al : List Int) (n : Int) : Nat := al.length - n.toNat
def lineGo (al : List Int) (base : Nat) : Nat → Nat → Nat
  | 0, _ => al.length
  | f + 1, off => if off < al.length then (if off = 0 ∨ (base < off ∧ al.getD (off - 1) 0 = 10) then off else lineGo al base f (off + 1)) else al.length
def lineM (al : List Int) (n : Int) (off : Nat) : Nat := lineGo al (rbaseM al n) (al.length + 1) (max off (rbaseM al n))
def startM (al : List Int) (n : Int) (back : Int) (line : Bool) : Nat :=
  let at_ := max (rbaseM al n) (al.length - back.toNat)
  if line = true then lineM al n at_ else at_
structure Vw where
  at_ : Nat
  sk : Int
/-- what is sent next -/
def Vw.next (v : Vw) (al : List Int) (n room most strikes : Int) : Vw × Mg × Bool :=
  if v.at_ < rbaseM al n then
    let m : Mg := ⟨7, v.at_, rbaseM al n, strL []⟩
    if strikes ≤ v.sk ∨ room < 17 then (v, ⟨12, 0, 0, strL []⟩, true) else (⟨rbaseM al n, v.sk + 1⟩, m, true)
  else
    let k := min (min most (max room 0 - 5 - 6)) 2042
    let b := (al.drop v.at_).take k.toNat
    if b = [] then (v, mg0, false) else (⟨v.at_ + b.length, v.sk⟩, ⟨6, v.at_, 0, strOfNums b⟩, true)

/-! ### the broker -/
structure Cn where
  st : Int
  name : ByteArray
  idle : Int
  fb : List Int
  fe : Int
  lx : LexS
  out : List Int
  vw : Option Vw
def cnNew : Cn := ⟨0, strL [], 0, [], 0, ⟨0, [], false⟩, [], none⟩
structure St where
  cf : Cf
  log : List Int
  tb : Tb
  inp : List Int
  inE : Bool
  cn : Int → Option Cn
  strikes : Int
  ended : Bool
  code : Int
  told : Int
def stNew (c : Cf) : St := ⟨c, [], ⟨c.a5, 0, 0, [], fun _ => none⟩, [], false, fun _ => none, c.a4, false, 0, 0⟩
def St.setc (S : St) (id : Int) (c : Option Cn) : St := { S with cn := fun i => if i = id then c else S.cn i }
def St.stOf (S : St) (id : Int) : Int := match S.cn id with
  | some c => c.st
  | none => 2
def isOpen (S : St) (id : Int) : Bool := match S.cn id with
  | some c => c.st == 1
  | none => false
def nOpen (S : St) : Nat := (ids16.filter (isOpen S)).length
/-- decimal digits of a small number -/
def dig (n : Int) : List UInt8 := if n < 10 then [UInt8.ofNat (48 + n.toNat)] else [UInt8.ofNat (48 + n.toNat / 10), UInt8.ofNat (48 + n.toNat % 10)]
def note (l : List UInt8) : Mg := ⟨10, 0, 0, strL l⟩
def leftL (id : Int) : List UInt8 := [108, 101, 102, 116, 32] ++ dig id
def sendW (lv : St → Int → St) (S : St) (id : Int) (m : Mg) : St :=
  match S.cn id with
  | none => S
  | some c => if c.st = 2 then S else if ((mB m).length + c.out.length : Int) ≤ S.cf.a2 then S.setc id (some { c with out := c.out ++ mB m }) else lv S id
def tellOne (lv : St → Int → St) (m : Mg) (S : St) (id : Int) : St := if isOpen S id = true then sendW lv S id m else S
def tellW (lv : St → Int → St) (S : St) (m : Mg) : St := ids16.foldl (tellOne lv m) S
def leaveF : Nat → St → Int → St
  | 0 => fun S _ => S
  | n + 1 => fun S id =>
    match S.cn id with
    | none => S
    | some c =>
      if c.st = 1 then tellW (leaveF n) { S.setc id (some { c with st := 2 }) with tb := S.tb.leave id } (note (leftL id))
      else S.setc id (some { c with st := 2 })
def leave : St → Int → St := leaveF 17
def send : St → Int → Mg → St := sendW leave
def tell : St → Mg → St := tellW leave
def shut (S : St) (id why : Int) : St :=
  let S1 := send S id ⟨13, why, 0, strL []⟩
  if S1.stOf id = 2 then S1 else leave S1 id
def roleFor (S : St) (w : Bool) : Int :=
  if w = false then 0 else if S.tb.users.any (fun i => S.tb.role i == 2) = true then 1 else 2
def wordR (r : Int) : List UInt8 := if r = 0 then [111, 98, 115, 101, 114, 118, 101, 114] else if r = 1 then [119, 114, 105, 116, 101, 114] else [111, 119, 110, 101, 114]
def namedL (l : List UInt8) : Bool := !l.isEmpty && l.all fun c => decide (32 < c.toNat ∧ c.toNat ≤ 126)
def helloM (S : St) (id : Int) (m : Mg) : St :=
  if m.k = 1 then
    if m.a / 4 = 1 then
      if namedL m.t.data.toList = true then
        let S1 := tell S (note ([106, 111, 105, 110, 101, 100, 32] ++ dig id ++ [32] ++ m.t.data.toList))
        match S1.cn id with
        | none => S1
        | some c =>
          let at_ := startM S1.log S1.cf.a0 m.b (decide (m.a % 4 / 2 = 1))
          let S2 := S1.setc id (some { c with st := 1, name := m.t, vw := some ⟨at_, 0⟩ })
          let r := roleFor S2 (decide (m.a % 2 = 1))
          let S3 := { S2 with tb := S2.tb.join id r }
          let S4 := send S3 id ⟨5, id, at_, strL (wordR r)⟩
          let S5 := send S4 id ⟨9, S4.told, 0, strL []⟩
          if S5.ended = true then send S5 id ⟨15, S5.code, 0, strL []⟩ else S5
      else shut S id 3
    else shut S id 2
  else shut S id 4
def nameOf (S : St) (i : Int) : List UInt8 := match S.cn i with
  | some c => c.name.data.toList
  | none => []
def listLine (S : St) (u : Int) : List UInt8 :=
  dig u ++ [32] ++ wordR (S.tb.role u) ++ [32] ++ nameOf S u ++ (if u = S.tb.holder then [32, 42] else [])
def listM (S : St) (id : Int) : St := S.tb.users.foldl (fun S u => send S id (note (listLine S u))) S
def ownK (k : Int) : Bool := decide (k = 5 ∨ (6 ≤ k ∧ k ≤ 9) ∨ k = 11)
def userM (S : St) (n : Int) : Bool := decide (n ≤ 16) && isOpen S n
def setTb (S : St) (p : Tb × Bool) : St × Bool := ({ S with tb := p.1 }, p.2)
def setTe (S : St) (p : Tb × Int) : St × Bool := ({ S with tb := p.1 }, p.2 == 0)
def toOther (S : St) (k n : Int) : St × Bool :=
  if userM S n = true then
    if k = 6 then setTe S (S.tb.give n)
    else if k = 7 then (shut S n 5, true)
    else if k = 8 then setTb S (S.tb.setRole n 1)
    else setTb S (S.tb.setRole n 0)
  else (S, false)
def doesM (S : St) (id k n : Int) : St × Bool :=
  if ownK k = true ∧ S.tb.role id ≠ 2 then (S, false)
  else if k = 1 then setTe S (S.tb.ask id)
  else if k = 2 then setTe S (S.tb.drop id)
  else if k = 3 then (listM S id, true)
  else if k = 4 then (shut S id 0, true)
  else if k = 5 then setTe S S.tb.revoke
  else if k = 10 then
    match S.cn id with
    | none => (S, true)
    | some c => (S.setc id (some { c with vw := c.vw.map fun v => ⟨startM S.log S.cf.a0 n false, v.sk⟩ }), true)
  else if k = 11 then (if 9 < n then (S, false) else ({ S with strikes := n }, true))
  else toOther S k n
def turnF : Nat → St → St
  | 0 => fun S => S
  | n + 1 => fun S => if S.tb.holder = S.told then S else turnF n (tell { S with told := S.tb.holder } ⟨9, S.tb.holder, 0, strL []⟩)
def turned : St → St := turnF 18
def lineM1 (S : St) (id : Int) (s : ByteArray) : St :=
  match parseO s with
  | none => turned (send S id ⟨11, 0, 0, s⟩)
  | some (k, n) => let r := doesM S id k n; turned (if r.2 = true then r.1 else send r.1 id ⟨11, 0, 0, s⟩)
def linesM : List ByteArray → St → Int → St
  | [] => fun S _ => S
  | s :: l => fun S id => if S.stOf id = 1 then linesM l (lineM1 S id s) id else S
def inqWhy (S : St) (id : Int) (n : Nat) : Int :=
  if S.inE = true then 1
  else match S.tb.roles id with
    | none => 2
    | some r => if r = 0 then 3 else if S.tb.holder = id then (if S.cf.a3 < n + S.inp.length then 5 else 0) else 4
def offerM (S : St) (id : Int) (keys : List Int) (seq : Int) : St :=
  if keys = [] then S
  else if inqWhy S id keys.length = 0 then { S with inp := S.inp ++ keys }
  else send S id ⟨8, seq, inqWhy S id keys.length, strL []⟩
def keysM (S : St) (id : Int) (m : Mg) : St :=
  match S.cn id with
  | none => S
  | some c =>
    let r := lexAll c.lx (bytesOf m.t)
    linesM r.2.2 (offerM (S.setc id (some { c with lx := r.1 })) id r.2.1 m.a) id
def messageM (S : St) (id : Int) (f : Frm) : St :=
  let r := mOf f
  if r.2 = false then shut S id 4
  else if S.stOf id = 0 then helloM S id r.1
  else if r.1.k = 2 then keysM S id r.1
  else if r.1.k = 3 then send S id ⟨14, 0, 0, strL []⟩
  else if r.1.k = 4 then shut S id 0
  else shut S id 4
def pumpC : Nat → St → Int → St
  | 0 => fun S _ => S
  | n + 1 => fun S id =>
    match S.cn id with
    | none => S
    | some c =>
      match c.vw with
      | none => S
      | some v =>
        if c.st = 1 then
          let r := v.next S.log S.cf.a0 (S.cf.a2 - c.out.length - 200) S.cf.a1 S.strikes
          if r.2.2 = true then
            let S1 := S.setc id (some { c with vw := some r.1, out := if ((mB r.2.1).length + c.out.length : Int) ≤ S.cf.a2 then c.out ++ mB r.2.1 else c.out })
            pumpC n (if r.2.1.k = 12 then leave S1 id else S1) id
          else S
        else S
def pumpOne (S : St) (id : Int) : St := if isOpen S id = true then pumpC (S.log.length + 3) S id else S
def pump (S : St) : St := ids16.foldl pumpOne S
def sweep (S : St) : St := { S with cn := fun i => match S.cn i with
  | some c => if c.st = 2 ∧ c.out = [] then none else some c
  | none => none }
def settle (S : St) : St := sweep (turned (pump (turned S)))
def connectM (S : St) (id : Int) : St × Int :=
  if id < 1 ∨ 16 < id then (S, 1)
  else if (S.cn id).isSome = true then (S, 3)
  else (S.setc id (some cnNew), 0)
def framesM : List Frm → St → Int → St
  | [] => fun S _ => S
  | f :: l => fun S id => framesM l (if S.stOf id = 2 then S else turned (messageM S id f)) id
def bytesM (S : St) (id : Int) (data : List Int) : St × Int :=
  match S.cn id with
  | none => (S, 2)
  | some c =>
    if c.st = 2 then (S, 3)
    else
      let r := feedPush c.fb c.fe data
      let S1 := framesM r.1 (S.setc id (some { c with idle := if data = [] then c.idle else 0, fb := r.2.1, fe := r.2.2 })) id
      (settle (if S1.stOf id = 2 ∨ r.2.2 = 0 then S1 else shut S1 id 1), 0)
def writeM (S : St) (id n : Int) : St × List Int × Int :=
  match S.cn id with
  | none => (S, [], 2)
  | some c => (settle (S.setc id (some { c with out := c.out.drop n.toNat })), c.out.take n.toNat, 0)
def outputM (S : St) (data : List Int) : St × Int :=
  if S.ended = true then (S, 3) else (settle { S with log := S.log ++ data }, 0)
def drainM (S : St) (n : Int) : St × List Int := ({ S with inp := S.inp.drop n.toNat }, S.inp.take n.toNat)
def tickOne (S : St) (id : Int) : St :=
  match S.cn id with
  | none => S
  | some c =>
    let S1 := S.setc id (some { c with idle := IntKind.i64.wrap (c.idle + 1) })
    if 0 < S.cf.a6 ∧ S.cf.a6 ≤ IntKind.i64.wrap (c.idle + 1) ∧ c.st ≠ 2 then shut S1 id 6 else S1
def tickM (S : St) : St := settle (ids16.foldl tickOne { S with tb := S.tb.tick })
def cutM (S : St) (id : Int) : St × Int :=
  if (S.cn id).isSome = true then (settle ((leave S id).setc id none), 0) else (S, 2)
def endM (S : St) (code : Int) : St × Int :=
  if S.ended = true then (S, 3)
  else if code < 0 ∨ 255 < code then (S, 1)
  else (settle (tell { S with ended := true, code := code, inp := [], inE := true } ⟨15, code, 0, strL []⟩), 0)
/-- what comes of an event -/
def step (S : St) (e : Ev) : St × Int × List Int :=
  if evB e = true then
    if e.k = 0 then ((connectM S e.i).1, (connectM S e.i).2, [])
    else if e.k = 1 then ((bytesM S e.i (bytesOf e.d)).1, (bytesM S e.i (bytesOf e.d)).2, [])
    else if e.k = 2 then ((writeM S e.i e.n).1, (writeM S e.i e.n).2.2, (writeM S e.i e.n).2.1)
    else if e.k = 3 then ((outputM S (bytesOf e.d)).1, (outputM S (bytesOf e.d)).2, [])
    else if e.k = 4 then ((drainM S e.n).1, 0, (drainM S e.n).2)
    else if e.k = 5 then (tickM S, 0, [])
    else if e.k = 6 then ((cutM S e.i).1, (cutM S e.i).2, [])
    else ((endM S e.n).1, (endM S e.n).2, [])
  else (S, 1, [])
def run : List Ev → St → St × List (Int × List Int)
  | [], S => (S, [])
  | e :: L, S => ((run L (step S e).1).1, (step S e).2 :: (run L (step S e).1).2)
end Go.Proofs.YtfkamoiamebngaaGreatDoor.Mod

/- frame: Right, Put. -/
namespace Go.Proofs.YtfkamoiamebngaaGreatDoor.BroW
open Go.RowKit Go.Proofs.YtfkamoiamebngaaGreatDoorW.PrintWords Go.Proofs.YtfkamoiamebngaaGreatDoorW.PrintMore Go.Proofs.YtfkamoiamebngaaGreatDoor.Fr Go.Proofs.YtfkamoiamebngaaGreatDoor.ScrW Go.Proofs.YtfkamoiamebngaaGreatDoor.ScrP Go.Proofs.YtfkamoiamebngaaGreatDoor.Mod
set_option linter.unusedVariables false
set_option linter.unusedSimpArgs false

theorem fright_calls (k : Int) (n : Nat) (A : Option Addr) (cp : Nat) (w : World) (hn : n ≤ 9223372036854775807) :
    Calls Tryz.prog 76 #[.agg #[.int .u8 k, .slice A n cp]] w fun e w' => e = .returned (.bool (decide ((n : Int) ≤ 2048))) ∧ Fr nope w w' := by
  go_enter Tryz.func76, Tryz.ntmps76
  go_wp2
  go_returns
  exact ⟨rfl, (Fr.refl _ _).alloc _⟩

theorem drew_size (w : World) : w.drew.heap.size = w.heap.size := rfl
theorem wrap_u8 (n : Int) : IntKind.u8.wrap n = n % 256 := by simp [IntKind.wrap, IntKind.bits, IntKind.signed]

/-- bytes of the call's own -/
def OwnB (w w' : World) (v : Value) (xs : List Int) : Prop := w'.ownsRow w.heap.size 5 1 v xs.length (nums .u8 xs)

theorem drop_two {i5 : TypeInfo} (h1 : Tryz.prog.info? 5 = some i5) (h2 : i5.size = 1) {b : Nat} {W : World} {A : Option Addr} {c : Nat} {xs : List Int} (ho : W.ownsRow b 5 1 (.slice A xs.length c) xs.length (nums .u8 xs)) (hl : 3 ≤ xs.length) :
    ∃ AR cR ys, (∀ W2 : World, (Instr.slice 29 (.slice A xs.length c) (some (.int .i64 2)) none none).run Tryz.prog W2 = .ok (.slice AR ys.length cR) W2) ∧ ReadsInt W .u8 AR ys.length ys ∧ ys.length ≤ xs.length ∧ ys = xs.drop (2 : Int).toNat := by
  have hcv : xs.length ≤ c := by
    rcases ho.2 with ⟨e, h0⟩ | ⟨g1, cap, cur, e, _, _, hn, _⟩
    · omega
    · injection e with _ _ e3; omega
  obtain ⟨AR, hdr, hrr, hll⟩ := print_drop_of (P := Tryz.prog) (Value.int .u8) (0 : Int) 29 5 .i64 Tryz.underlying29 h1 h2 A c xs 2 (by decide) (by omega) hcv
  exact ⟨AR, _, xs.drop (2 : Int).toNat, hdr, hrr _ (own_reads' ho), by rw [List.length_drop]; omega, rfl⟩

set_option maxRecDepth 100000 in
set_option maxHeartbeats 1000000 in
theorem fput_calls (k : Int) (bs : List Int) (A : Option Addr) (cp : Nat) (w : World) (hk : 0 ≤ k ∧ k ≤ 255) (hl : bs.length ≤ 2048) (hr : ReadsInt w .u8 A bs.length bs) (hb : isB bs) :
    Calls Tryz.prog 51 #[.slice none 0 0, .agg #[.int .u8 k, .slice A bs.length cp]] w fun e w' => ∃ v, e = .returned v ∧ OwnB w w' v (frB k bs) ∧ Fr nope w w' := by
  have HR := Aside0.mk hr
  have HB := Aside0.mk hb
  clear hr hb
  have hcond : decide ((bs.length : Int) ≤ 2048) = true := decide_eq_true (by omega)
  obtain ⟨x1, hx1⟩ : ∃ l, l = [((bs.length : Int) + 1) / 256, ((bs.length : Int) + 1) % 256, k] := ⟨_, rfl⟩
  obtain ⟨x2, hx2⟩ : ∃ l, l = x1 ++ bs := ⟨_, rfl⟩
  obtain ⟨s, hs⟩ : ∃ s, s = sumOf (k :: bs) := ⟨_, rfl⟩
  obtain ⟨x3, hx3⟩ : ∃ l, l = x2 ++ [s / 256, s % 256] := ⟨_, rfl⟩
  have hl1 : x1.length ≤ 3 := by rw [hx1]; simp
  have hl1' : 3 ≤ x1.length := by rw [hx1]; simp
  have hl2 : x2.length ≤ 2051 := by rw [hx2, List.length_append]; omega
  have hl2' : 3 ≤ x2.length := by rw [hx2, List.length_append]; omega
  have hsb : 0 ≤ s ∧ s ≤ 65535 := by rw [hs]; exact sumOf_b _
  have HD : Aside0 (x2.drop (2 : Int).toNat = k :: bs) := ⟨by rw [hx2, hx1]; rfl⟩
  have HBD : Aside0 (isB (k :: bs)) := ⟨fun x hx => by
    rcases List.mem_cons.1 hx with rfl | hx
    · exact hk
    · exact HB.out x hx⟩
  have HFIN : Aside0 (x3 = frB k bs) := ⟨by
    unfold frB
    rw [if_pos hl, hx3, hx2, hx1, ← hs]
    unfold be2
    rw [show ((bs.length : Int) + 1) / 256 % 256 = ((bs.length : Int) + 1) / 256 by omega, show s / 256 % 256 = s / 256 by omega]
    simp⟩
  have HX1 := Aside0.mk hx1
  have HX2 := Aside0.mk hx2
  have HX3 := Aside0.mk hx3
  have HS := Aside0.mk hs
  clear hx1 hx2 hx3 hs
  obtain ⟨i5, hi5, hz5⟩ := Option.map_eq_some_iff.1 info5
  simp only [Prod.mk.injEq] at hz5
  have HI5 := Aside0.mk (And.intro hi5 hz5.2.1)
  clear hi5 hz5
  go_enter Tryz.func51, Tryz.ntmps51
  go_wp2_with (first | (go_at_call 76; refine (fright_calls k bs.length A cp _ (by omega)).mono ?_; rintro e w1 ⟨rfl, hf1⟩; have hB1 := hf1.blk (blk_new w (.cells #[.int .u8 k, .slice A bs.length cp] 50)) (fun h => h); have c0 : w1.cell? ⟨w.heap.size, 0, none⟩ = some (.int .u8 k) := (blk_cell hB1 0).trans rfl; have c1 : w1.cell? ⟨w.heap.size, 1, none⟩ = some (.slice A bs.length cp) := (blk_cell hB1 1).trans rfl; have HB1 := Aside0.mk hB1; have HF1 := Aside0.mk (((Fr.refl nope w).alloc (.cells #[.int .u8 k, .slice A bs.length cp] 50)).trans hf1 (fun i _ h => h.elim)); have hs1 : w.heap.size < w1.heap.size := blk_lt hB1; clear hf1 hB1))
  have HK : Aside0 (∀ w', Fr nope w1 w' → w'.cell? ⟨w.heap.size, 0, none⟩ = some (.int .u8 k) ∧ Fr nope w1 w') := ⟨fun w' hF => ⟨by rw [World.cell?_of_block (hF.block _ hs1 (fun h => h))]; exact c0, hF⟩⟩
  have hwA : IntKind.u8.wrap (((bs.length : Int) + 1) / 256) = ((bs.length : Int) + 1) / 256 := by rw [wrap_u8]; omega
  have hwB : IntKind.u8.wrap ((bs.length : Int) + 1) = ((bs.length : Int) + 1) % 256 := by rw [wrap_u8]
  have HW := Aside0.mk (And.intro hwA hwB)
  go_region_held3 (fun w' => w'.cell? ⟨w.heap.size, 0, none⟩ = some (.int .u8 k) ∧ Fr nope w1 w')
    (first | exact HK.out _ (by assumption) | exact HK.out _ hF2 | exact HK.out _ (Fr.refl nope w1).drew | exact HK.out _ ((Fr.refl nope w1).alloc _).drew | fail)
    (first | (refine step_app_nil (by rfl) (.const (.slice none 0 0)) (.tmp 16) 29 5 (by rfl) Tryz.underlying29 info5 (by rfl) (by rfl) ?_) | (refine step_app_nums (W := (w1.alloc (.cells #[.int .u8 (((bs.length : Int) + 1) / 256), .int .u8 (((bs.length : Int) + 1) % 256), .int .u8 k] 5)).drew) (by rfl) (.tmp 17) (.tmp 25) 29 5 .u8 1 (by rfl) Tryz.underlying29 info5 (by decide) w.heap.size (.slice none 0 0) [] [((bs.length : Int) + 1) / 256, ((bs.length : Int) + 1) % 256, k] (some ⟨w1.heap.size, 0, none⟩) 3 3 (by rfl) (by rfl) (World.ownsRow_nil _ _ _ _) (reads_lit w1 .u8 [((bs.length : Int) + 1) / 256, ((bs.length : Int) + 1) % 256, k] 5 (0, 0) (by simp)) (by rw [drew_size, World.size_alloc]; omega) (by decide) ?_; intro v2 w2 ho2 hf2 hat2; rw [List.nil_append, ← HX1.out] at ho2; obtain ⟨A2, c2, rfl⟩ := own_slice ho2; have HO2 := Aside0.mk ho2; have hF2 : Fr nope w1 w2 := ((Fr.refl nope w1).alloc _).drew.trans hf2 (fun i hi hs => by cases hs); clear ho2 hf2 hat2) | fail)
  all_goals
    have hB2 := hF2.blk HB1.out (fun h => h)
    have c2' : w2.cell? ⟨w.heap.size, 1, none⟩ = some (.slice A bs.length cp) := (blk_cell hB2 1).trans rfl
    have HF2 := Aside0.mk (HF1.out.trans hF2 (fun i _ h => h.elim))
    have hs2 : w1.heap.size ≤ w2.heap.size := hF2.size
    clear hB2 hF2 c0 c1
    go_wp2_with (first | ((with_reducible refine gate_builtin (b := .append) (xs := #[.tmp 27, .tmp 29]) rfl ?_); at_builtin; refine app_nums rfl (.tmp 27) (.tmp 29) 29 5 .u8 1 rfl Tryz.underlying29 info5 (by decide) w.heap.size (.slice A2 x1.length c2) x1 bs A bs.length cp rfl rfl HO2.out (HF2.out.reads HR.out (fun _ _ h => h)) (by omega) (by omega) ?_; intro v3 w3 ho3 hf3 hat3; rw [← HX2.out] at ho3; obtain ⟨A3, c3, rfl⟩ := own_slice ho3; have HO3 := Aside0.mk ho3; have HF3 := Aside0.mk (HF2.out.trans hf3 (fun i hi hs => absurd (own_old HO2.out hs).1 (by omega))); have hs3 : w2.heap.size ≤ w3.heap.size := hf3.size; obtain ⟨AR, cR, ys, hdr, hrr, hyl, hys⟩ := drop_two HI5.out.1 HI5.out.2 HO3.out hl2'; have HRR := Aside0.mk hrr; have HYS : Aside0 (ys = k :: bs) := ⟨by rw [hys]; exact HD.out⟩; clear hrr hys; clear ho3 hf3 hat3 hwA hwB c2') | (go_at_call 52; refine (sumOf_calls ys AR _ w3 HRR.out (by rw [HYS.out]; exact HBD.out)).mono ?_; rintro e4 w4 ⟨rfl, hw4⟩; have hw4 := hw4.symm; subst hw4; rw [HYS.out, ← HS.out]) | ((with_reducible refine gate_builtin (b := .append) (xs := #[.tmp 37, .tmp 43]) rfl ?_); at_builtin; refine app_nums rfl (.tmp 37) (.tmp 43) 29 5 .u8 1 rfl Tryz.underlying29 info5 (by decide) w.heap.size (.slice A3 x2.length c3) x2 [s / 256, s % 256] _ 2 2 rfl rfl ?aO ?aR ?aB ?aL ?_; (case aO => exact HO3.out.alloc _); (case aR => exact reads_lit w3 .u8 [s / 256, s % 256] 5 (0, 0) (by simp)); (case aB => exact (by rw [World.size_alloc]; omega)); (case aL => exact (by omega)); intro v5 w5 ho5 hf5 hat5; rw [← HX3.out] at ho5; obtain ⟨A5, c5, rfl⟩ := own_slice ho5; have HO5 := Aside0.mk ho5; have HF5 := Aside0.mk ((HF3.out.alloc _).trans hf5 (fun i hi hs => absurd (own_old HO3.out hs).1 (by omega))); clear ho5 hf5 hat5))
    go_returns
    exact ⟨_, rfl, by unfold OwnB; rw [← HFIN.out]; exact HO5.out, HF5.out⟩
end Go.Proofs.YtfkamoiamebngaaGreatDoor.BroW

/- frame: Get. -/
namespace Go.Proofs.YtfkamoiamebngaaGreatDoor.BroW
open Go.RowKit Go.Proofs.YtfkamoiamebngaaGreatDoorW.PrintWords Go.Proofs.YtfkamoiamebngaaGreatDoorW.PrintMore Go.Proofs.YtfkamoiamebngaaGreatDoor.Fr Go.Proofs.YtfkamoiamebngaaGreatDoor.ScrW Go.Proofs.YtfkamoiamebngaaGreatDoor.ScrP Go.Proofs.YtfkamoiamebngaaGreatDoor.Mod
set_option linter.unusedVariables false
set_option linter.unusedSimpArgs false

theorem getD_b {xs : List Int} (h : isB xs) (i : Nat) (hi : i < xs.length) : 0 ≤ xs.getD i 0 ∧ xs.getD i 0 ≤ 255 := by
  have e : xs.getD i 0 = xs[i] := by simp [hi]
  rw [e]
  exact h _ (List.getElem_mem hi)
theorem wrap_u16' (n : Int) : IntKind.u16.wrap n = n % 65536 := by simp [IntKind.wrap, IntKind.bits, IntKind.signed]
theorem or_low16 (x c : Int) (h0 : 0 ≤ x) (h1 : x ≤ 255) (h2 : 0 ≤ c) (h3 : c ≤ 255) : bits .or .u16 (x * 256) c = x * 256 + c := by
  obtain ⟨a, rfl⟩ := Int.eq_ofNat_of_zero_le h0
  obtain ⟨b, rfl⟩ := Int.eq_ofNat_of_zero_le h2
  have ha : a ≤ 255 := by omega
  have hb : b < 2 ^ 8 := by omega
  have e1 : (BitVec.ofInt 16 ((a : Int) * 256)).toNat = a * 256 := by rw [BitVec.toNat_ofInt]; omega
  have e2 : (BitVec.ofInt 16 (b : Int)).toNat = b := by rw [BitVec.toNat_ofInt]; omega
  show IntKind.u16.wrap ((BitVec.ofInt 16 ((a : Int) * 256) ||| BitVec.ofInt 16 (b : Int)).toNat : Nat) = _
  rw [BitVec.toNat_or, e1, e2]
  have h := Nat.shiftLeft_add_eq_or_of_lt hb a
  have e3 : a <<< 8 = a * 256 := Nat.shiftLeft_eq a 8
  rw [e3] at h
  rw [← h, wrap_u16']
  omega
theorem set2 {w1 : World} {g : Nat} {x0 x1 : Value} {T : TypeId} (hB : w1.heap[g]? = some (.cells #[x0, x1] T (0, 0))) (v0 v1 : Value) :
    ∃ W4, W4 = (w1.setCell ⟨g, 0, none⟩ v0).setCell ⟨g, 1, none⟩ v1 ∧ W4.cell? ⟨g, 0, none⟩ = some v0 ∧ W4.cell? ⟨g, 1, none⟩ = some v1 := by
  have h := blk_set (blk_set hB 0 v0) 1 v1
  exact ⟨_, rfl, (blk_cell h 0).trans rfl, (blk_cell h 1).trans rfl⟩
def FGet (w : World) (g : Frm × Nat × Int) (e : Ending) (w' : World) : Prop :=
  ∃ v, e = .returned (.tuple #[.agg #[.int .u8 g.1.1, v], .int .i64 g.2.1, .int .i64 g.2.2]) ∧ OwnB w w' v g.1.2 ∧ Fr nope w w'
theorem fget_bad {bs : List Int} {w w' : World} {x : Int} {e : Ending} (h : getB bs = ((0, []), 0, x)) (he : e = .returned (.tuple #[.agg #[.int .u8 0, .slice none 0 0], .int .i64 0, .int .i64 x])) (hF : Fr nope w w') : FGet w (getB bs) e w' := by
  rw [h]
  exact ⟨_, he, World.ownsRow_nil _ _ _ _, hF⟩

set_option maxRecDepth 100000 in
set_option maxHeartbeats 1000000 in
theorem fget_calls (bs : List Int) (A : Option Addr) (cp : Nat) (w : World) (hc : bs.length ≤ cp) (hcm : cp ≤ 9223372036854775807) (hr : ReadsInt w .u8 A bs.length bs) (hb : isB bs) :
    Calls Tryz.prog 32 #[.slice A bs.length cp] w (FGet w (getB bs)) := by
  have HR := Aside0.mk hr
  have HB := Aside0.mk hb
  clear hr hb
  by_cases h2 : bs.length < 2
  · have HE : Aside0 (getB bs = ((0, []), 0, 5)) := ⟨by unfold getB; rw [if_pos h2]⟩
    go_enter Tryz.func32, Tryz.ntmps32
    go_wp2
    go_returns
    exact fget_bad HE.out rfl ((Fr.refl _ _).alloc _)
  have HL2 : Aside0 (¬ bs.length < 2) := ⟨h2⟩
  have t2 : decide (bs.length < 2) = false := decide_eq_false h2
  have q0 : (0 : Int) < (bs.length : Int) := by omega
  have q1 : (1 : Int) < (bs.length : Int) := by omega
  obtain ⟨ad, hAd, hcells⟩ := HR.out.2.2 (by omega)
  subst hAd
  obtain ⟨b0, hb0⟩ : ∃ c, bs.getD 0 0 = c := ⟨_, rfl⟩
  obtain ⟨b1, hb1⟩ : ∃ c, bs.getD 1 0 = c := ⟨_, rfl⟩
  have d0 : w.cell? ad = some (.int .u8 b0) := by have := hcells 0 (by omega); rw [hb0] at this; rw [← this]; simp [Addr.add]
  have d1 : w.cell? ⟨ad.block, ad.off + 1, none⟩ = some (.int .u8 b1) := by have := hcells 1 (by omega); rw [hb1, show (1 : Nat) = 0 + 1 from rfl, add_succ] at this; exact this
  have hb0r : 0 ≤ b0 ∧ b0 ≤ 255 := by rw [← hb0]; exact getD_b HB.out 0 (by omega)
  have hb1r : 0 ≤ b1 ∧ b1 ≤ 255 := by rw [← hb1]; exact getD_b HB.out 1 (by omega)
  have d0o : ∀ o, (w.alloc o).cell? ad = some (.int .u8 b0) := fun o => by rw [World.cell?_of_block (Below.heap_alloc w o _ (World.block_lt_of_cell? w _ d0))]; exact d0
  have d1o : ∀ o, (w.alloc o).cell? ⟨ad.block, ad.off + 1, none⟩ = some (.int .u8 b1) := fun o => by rw [World.cell?_of_block (Below.heap_alloc w o _ (World.block_lt_of_cell? w _ d1))]; exact d1
  have hw0 : IntKind.i64.wrap b0 = b0 := by rw [IntKind.wrap_i64]; omega
  have hw1 : IntKind.i64.wrap b1 = b1 := by rw [IntKind.wrap_i64]; omega
  have hw2 : IntKind.i64.wrap (b0 * 256) = b0 * 256 := by rw [IntKind.wrap_i64]; omega
  have hor := or_low b0 b1 hb0r.1 (by omega) hb1r.1 hb1r.2
  obtain ⟨n, hn⟩ : ∃ n, b0 * 256 + b1 = n := ⟨_, rfl⟩
  rw [hn] at hor
  have hnb : 0 ≤ n ∧ n ≤ 65535 := by omega
  have HN : Aside0 (bs.getD 0 0 * 256 + bs.getD 1 0 = n) := ⟨by rw [hb0, hb1]; exact hn⟩
  clear hb0 hb1 hn h2 hcells
  by_cases h3 : n = 0 ∨ 2049 < n
  · have HE : Aside0 (getB bs = ((0, []), 0, 6)) := ⟨by unfold getB; rw [if_neg HL2.out, HN.out]; simp only []; rw [if_pos (by omega)]⟩
    rcases h3 with h3 | h3
    · have t3 : (n == 0) = true := beq_iff_eq.2 h3
      clear h3
      go_enter Tryz.func32, Tryz.ntmps32
      go_wp2
      go_quiet (fail)
      go_wp2
      go_returns
      exact fget_bad HE.out rfl ((((((Fr.refl _ _).alloc _).drewN _).set (fun h => absurd h (Nat.lt_irrefl _)) 0 _).set (fun h => absurd h (Nat.lt_irrefl _)) 1 _))
    · have t3 : (n == 0) = false := beq_eq_false_iff_ne.2 (by omega)
      have t4 : decide (2049 < n) = true := decide_eq_true h3
      go_enter Tryz.func32, Tryz.ntmps32
      go_wp2
      go_quiet (fail)
      go_wp2
      go_returns
      exact fget_bad HE.out rfl ((((((Fr.refl _ _).alloc _).drewN _).set (fun h => absurd h (Nat.lt_irrefl _)) 0 _).set (fun h => absurd h (Nat.lt_irrefl _)) 1 _))
  have t3 : (n == 0) = false := beq_eq_false_iff_ne.2 (by omega)
  have t4 : decide (2049 < n) = false := decide_eq_false (by omega)
  have hn1 : 1 ≤ n := by omega
  have hn2 : n ≤ 2049 := by omega
  clear h3
  have HL3 : Aside0 (¬ (n.toNat = 0 ∨ 2049 < n.toNat)) := ⟨by omega⟩
  by_cases h4 : (bs.length : Int) < n + 4
  · have HE : Aside0 (getB bs = ((0, []), 0, 5)) := ⟨by unfold getB; rw [if_neg HL2.out, HN.out]; simp only []; rw [if_neg HL3.out, if_pos (by omega)]⟩
    have t5 : decide ((bs.length : Int) < n + 4) = true := decide_eq_true h4
    go_enter Tryz.func32, Tryz.ntmps32
    go_wp2
    go_quiet (fail)
    go_wp2
    go_returns
    exact fget_bad HE.out rfl ((((((Fr.refl _ _).alloc _).drewN _).set (fun h => absurd h (Nat.lt_irrefl _)) 0 _).set (fun h => absurd h (Nat.lt_irrefl _)) 1 _))
  have t5 : decide ((bs.length : Int) < n + 4) = false := decide_eq_false h4
  have hn4 : n + 4 ≤ (bs.length : Int) := by omega
  have HL4 : Aside0 (¬ (bs.length < n.toNat + 4)) := ⟨by omega⟩
  clear h4
  obtain ⟨i5, hi5, hz5⟩ := Option.map_eq_some_iff.1 info5
  simp only [Prod.mk.injEq] at hz5
  obtain ⟨A1, hs1, hr1, hl1⟩ := print_mid_int (P := Tryz.prog) (k := .u8) 29 5 Tryz.underlying29 hi5 hz5.2.1 (some ad) cp bs 2 (n + 2) (by omega) (by omega) (by omega) hc
  obtain ⟨A2, hs2, hr2, hl2⟩ := print_mid_int (P := Tryz.prog) (k := .u8) 29 5 Tryz.underlying29 hi5 hz5.2.1 (some ad) cp bs 3 (n + 2) (by omega) (by omega) (by omega) hc
  obtain ⟨m1, hm1⟩ : ∃ l, l = (bs.take (n + 2).toNat).drop (2 : Int).toNat := ⟨_, rfl⟩
  obtain ⟨m2, hm2⟩ : ∃ l, l = (bs.take (n + 2).toNat).drop (3 : Int).toNat := ⟨_, rfl⟩
  rw [← hm1] at hs1 hr1 hl1
  rw [← hm2] at hs2 hr2 hl2
  have HR1 := Aside0.mk (hr1 w HR.out)
  have HR2 := Aside0.mk (hr2 w HR.out)
  have HB1 : Aside0 (isB m1) := ⟨fun x hx => HB.out x (List.mem_of_mem_take (List.mem_of_mem_drop (by rw [← hm1]; exact hx)))⟩
  have HM1 : Aside0 ((bs.take (n.toNat + 2)).drop 2 = m1) := ⟨by rw [hm1, show (n + 2).toNat = n.toNat + 2 by omega]; rfl⟩
  have HM2 : Aside0 ((bs.take (n.toNat + 2)).drop 3 = m2) := ⟨by rw [hm2, show (n + 2).toNat = n.toNat + 2 by omega]; rfl⟩
  have hm2l : m2.length ≤ 2050 := by rw [hm2, List.length_drop, List.length_take]; omega
  have hcells := HR.out.2.2 (by omega)
  obtain ⟨ad', e', hcells⟩ := hcells
  obtain rfl : ad = ad' := Option.some.inj e'
  obtain ⟨b2, hb2⟩ : ∃ c, bs.getD 2 0 = c := ⟨_, rfl⟩
  obtain ⟨c2, hc2⟩ : ∃ c, bs.getD (n.toNat + 2) 0 = c := ⟨_, rfl⟩
  obtain ⟨c3, hc3⟩ : ∃ c, bs.getD (n.toNat + 3) 0 = c := ⟨_, rfl⟩
  have d2 : w.cell? ⟨ad.block, ad.off + 2, none⟩ = some (.int .u8 b2) := by have := hcells 2 (by omega); rw [hb2, show (2 : Nat) = 1 + 1 from rfl, add_succ] at this; exact this
  have e2 : w.cell? (ad.add (n + 2).toNat) = some (.int .u8 c2) := by have := hcells (n.toNat + 2) (by omega); rw [hc2] at this; rw [show (n + 2).toNat = n.toNat + 2 by omega]; exact this
  have e3 : w.cell? (ad.add (n + 3).toNat) = some (.int .u8 c3) := by have := hcells (n.toNat + 3) (by omega); rw [hc3] at this; rw [show (n + 3).toNat = n.toNat + 3 by omega]; exact this
  have hc2r : 0 ≤ c2 ∧ c2 ≤ 255 := by rw [← hc2]; exact getD_b HB.out _ (by omega)
  have hc3r : 0 ≤ c3 ∧ c3 ≤ 255 := by rw [← hc3]; exact getD_b HB.out _ (by omega)
  have HC23 := Aside0.mk (And.intro hb2 (And.intro hc2 hc3))
  have up : ∀ {a : Addr} {v : Value}, w.cell? a = some v → ∀ o, (w.alloc o).cell? a = some v := fun h o => by rw [World.cell?_of_block (Below.heap_alloc w o _ (World.block_lt_of_cell? w _ h))]; exact h
  have e2o := up e2
  have e3o := up e3
  have HD2 := Aside0.mk d2
  have hv0 : IntKind.u16.wrap c2 = c2 := by rw [wrap_u16']; omega
  have hv1 : IntKind.u16.wrap c3 = c3 := by rw [wrap_u16']; omega
  have hv2 : IntKind.u16.wrap (c2 * 256) = c2 * 256 := by rw [wrap_u16']; omega
  have hor2 := or_low16 c2 c3 hc2r.1 hc2r.2 hc3r.1 hc3r.2
  obtain ⟨y, hy⟩ : ∃ y, c2 * 256 + c3 = y := ⟨_, rfl⟩
  rw [hy] at hor2
  have HY : Aside0 (bs.getD (n.toNat + 2) 0 * 256 + bs.getD (n.toNat + 3) 0 = y) := ⟨by rw [hc2, hc3]; exact hy⟩
  have qw2 : IntKind.i64.wrap (n + 2) = n + 2 := by rw [IntKind.wrap_i64]; omega
  have qw4 : IntKind.i64.wrap (n + 4) = n + 4 := by rw [IntKind.wrap_i64]; omega
  have qw3 : IntKind.i64.wrap (n + 3) = n + 3 := by rw [IntKind.wrap_i64]; omega
  have q2 : n + 2 < (bs.length : Int) := by omega
  have q3 : n + 3 < (bs.length : Int) := by omega
  have q4 : 0 ≤ n + 2 := by omega
  have q5 : 0 ≤ n + 3 := by omega
  clear hb2 hc2 hc3 hy hr1 hr2 hi5 hz5 hcells up hm1 hm2
  obtain ⟨s, hs⟩ : ∃ s, sumOf m1 = s := ⟨_, rfl⟩
  have HS := Aside0.mk hs
  clear hs
  by_cases h5 : s = y
  case neg =>
    have HE : Aside0 (getB bs = ((0, []), 0, 7)) := ⟨by unfold getB; rw [if_neg HL2.out, HN.out]; simp only []; rw [if_neg HL3.out, if_neg HL4.out, HM1.out, HS.out, HY.out, if_neg h5]⟩
    have t6 : (s != y) = true := by rw [bne_iff_ne]; exact h5
    clear h5
    go_enter Tryz.func32, Tryz.ntmps32
    go_wp2
    go_quiet (fail)
    go_wp2
    obtain ⟨W1, hW1⟩ : ∃ W1, W1 = World.drewN (w.alloc (.cells #[.int .u8 0, .slice none 0 0] 50)) nq := ⟨_, rfl⟩
    rw [← hW1]
    have HF1 : Aside0 (Fr nope w W1) := ⟨by rw [hW1]; exact ((Fr.refl _ _).alloc _).drewN _⟩
    have hB1 : W1.heap[w.heap.size]? = some (.cells #[.int .u8 0, .slice none 0 0] 50 (0, 0)) := by rw [hW1]; exact blk_drewN (blk_new w _) _
    have e2w : W1.cell? (ad.add (n + 2).toNat) = some (.int .u8 c2) := by rw [hW1]; exact e2o _
    have e3w : W1.cell? (ad.add (n + 3).toNat) = some (.int .u8 c3) := by rw [hW1]; exact e3o _
    have hsz : w.heap.size < W1.heap.size := blk_lt hB1
    have g0 : W1.cell? ⟨w.heap.size, 0, none⟩ = some (.int .u8 0) := (blk_cell hB1 0).trans rfl
    have g1 : W1.cell? ⟨w.heap.size, 1, none⟩ = some (.slice none 0 0) := (blk_cell hB1 1).trans rfl
    have f0 := blk_frozen hB1 0
    have f1 := blk_frozen hB1 1
    have HB := Aside0.mk hB1
    clear hW1 hB1 e2o e3o d0o d1o d0 d1 d2 e2 e3
    have HSUM : Aside0 (∀ (C : Nat) (W : World), Fr nope W1 W → Calls Tryz.prog 52 #[.slice A1 m1.length C] W fun e w' => e = .returned (.int .u16 s) ∧ w' = W) := ⟨fun C W hF => by
      have h := sumOf_calls m1 A1 C W ((HF1.out.trans hF (fun i _ h => h.elim)).reads HR1.out (fun _ _ h => h)) HB1.out
      rw [HS.out] at h
      exact h⟩
    go_quiet ((go_at_call 52; exact Calls.quiet_of_same (HSUM.out _ _ ((Fr.refl _ _).drewN _))))
    go_wp2
    obtain ⟨W4, hW4, r0, r1⟩ := set2 (blk_drewN HB.out nq) (.int .u8 0) (.slice none 0 0)
    rw [← hW4]
    refine bodyPost_ret (by simp [results, Tryz.results32, go_sem, r0, r1]; try rfl) rfl ?_
    rw [hW4]
    exact fget_bad HE.out rfl (((HF1.out.drewN _).set (fun h => absurd h (Nat.lt_irrefl _)) 0 _).set (fun h => absurd h (Nat.lt_irrefl _)) 1 _)
  have HE : Aside0 (getB bs = ((b2, m2), n.toNat + 4, 0)) := ⟨by unfold getB; rw [if_neg HL2.out, HN.out]; simp only []; rw [if_neg HL3.out, if_neg HL4.out, HM1.out, HS.out, HY.out, if_pos h5, HM2.out, HC23.out.1]⟩
  have t6 : (s != y) = false := by rw [bne_eq_false_iff_eq]; exact h5
  clear h5
  go_enter Tryz.func32, Tryz.ntmps32
  go_wp2
  go_quiet (fail)
  go_wp2
  obtain ⟨W1, hW1⟩ : ∃ W1, W1 = World.drewN (w.alloc (.cells #[.int .u8 0, .slice none 0 0] 50)) nq := ⟨_, rfl⟩
  rw [← hW1]
  have HF1 : Aside0 (Fr nope w W1) := ⟨by rw [hW1]; exact ((Fr.refl _ _).alloc _).drewN _⟩
  have hB1 : W1.heap[w.heap.size]? = some (.cells #[.int .u8 0, .slice none 0 0] 50 (0, 0)) := by rw [hW1]; exact blk_drewN (blk_new w _) _
  have e2w : W1.cell? (ad.add (n + 2).toNat) = some (.int .u8 c2) := by rw [hW1]; exact e2o _
  have e3w : W1.cell? (ad.add (n + 3).toNat) = some (.int .u8 c3) := by rw [hW1]; exact e3o _
  have hsz : w.heap.size < W1.heap.size := blk_lt hB1
  have g0 : W1.cell? ⟨w.heap.size, 0, none⟩ = some (.int .u8 0) := (blk_cell hB1 0).trans rfl
  have g1 : W1.cell? ⟨w.heap.size, 1, none⟩ = some (.slice none 0 0) := (blk_cell hB1 1).trans rfl
  have f0 := blk_frozen hB1 0
  have f1 := blk_frozen hB1 1
  have HB := Aside0.mk hB1
  clear hW1 hB1 e2o e3o d0o d1o d0 d1 d2 e2 e3
  have HSUM : Aside0 (∀ (C : Nat) (W : World), Fr nope W1 W → Calls Tryz.prog 52 #[.slice A1 m1.length C] W fun e w' => e = .returned (.int .u16 s) ∧ w' = W) := ⟨fun C W hF => by
    have h := sumOf_calls m1 A1 C W ((HF1.out.trans hF (fun i _ h => h.elim)).reads HR1.out (fun _ _ h => h)) HB1.out
    rw [HS.out] at h
    exact h⟩
  go_quiet ((go_at_call 52; exact Calls.quiet_of_same (HSUM.out _ _ ((Fr.refl _ _).drewN _))))
  go_wp2
  obtain ⟨W2, hW2⟩ : ∃ W2, W2 = W1.drewN nq := ⟨_, rfl⟩
  rw [← hW2]
  have hB2 : W2.heap[w.heap.size]? = some (.cells #[.int .u8 0, .slice none 0 0] 50 (0, 0)) := by rw [hW2]; exact blk_drewN HB.out nq
  have HF2 : Aside0 (Fr nope w W2) := ⟨by rw [hW2]; exact HF1.out.drewN _⟩
  have hsz2 : w.heap.size < W2.heap.size := blk_lt hB2
  have hlt2 : ad.block < w.heap.size := World.block_lt_of_cell? w (⟨ad.block, ad.off + 2, none⟩ : Addr) HD2.out
  have hk2 : W2.cell? ⟨ad.block, ad.off + 2, none⟩ = some (.int .u8 b2) := frCell HF2.out HD2.out (fun h => h)
  have HB2 := Aside0.mk hB2
  have HK : Aside0 (∀ w', Fr (only w.heap.size) W2 w' → w'.cell? ⟨ad.block, ad.off + 2, none⟩ = some (.int .u8 b2) ∧ Fr (only w.heap.size) W2 w') :=
    ⟨fun w' hF => ⟨frCell hF hk2 (fun h => by unfold only at h; simp only at h; omega), hF⟩⟩
  have hq2 : (2 : Int) < (bs.length : Int) := by omega
  clear hW2 hB2 g0 g1 f0 f1 e2w e3w HB HSUM
  have hm2l1 : (m2.length : Int) ≤ 2050 := by omega
  go_region_held3 (fun w' => w'.cell? ⟨ad.block, ad.off + 2, none⟩ = some (.int .u8 b2) ∧ Fr (only w.heap.size) W2 w')
    (first | exact HK.out _ (Fr.refl _ W2).drew | exact HK.out _ hF3 | exact HK.out _ ((hF3.set (fun _ => rfl) 0 _).set (fun _ => rfl) 1 _) | fail)
    (first | (refine step_app_nums (W := W2.drew) (by rfl) (.const (.slice none 0 0)) (.tmp 63) 29 5 .u8 1 (by rfl) Tryz.underlying29 info5 (by decide) w.heap.size (.slice none 0 0) [] m2 A2 m2.length (cp - 3) (by rfl) (by rfl) (World.ownsRow_nil _ _ _ _) (HF2.out.drew.reads HR2.out (fun _ _ h => h)) (by rw [drew_size]; omega) (by simp only [List.length_nil]; omega) ?_; intro v3 w3 ho3 hf3 hat3; rw [List.nil_append] at ho3; obtain ⟨A3, c3', rfl⟩ := own_slice ho3; have HO3 := Aside0.mk ho3; have hF3 : Fr (only w.heap.size) W2 w3 := (Fr.refl (only w.heap.size) W2).drew.trans hf3 (fun i hi hs => by cases hs); have hB3 := hf3.blk (blk_drew HB2.out) (fun hs => by cases hs); have HB3 := Aside0.mk hB3; have g0 : w3.cell? ⟨w.heap.size, 0, none⟩ = some (.int .u8 0) := (blk_cell hB3 0).trans rfl; have g1 : w3.cell? ⟨w.heap.size, 1, none⟩ = some (.slice none 0 0) := (blk_cell hB3 1).trans rfl; have f0 := blk_frozen hB3 0; have f1 := blk_frozen hB3 1; have hne3 : some w.heap.size ≠ (Value.slice A3 m2.length c3').ownBlock := (fun e => by rcases hat3 with h | ⟨b, h, h2⟩; exact (by rw [h] at e; cases e); exact (by rw [h] at e; cases e; rw [drew_size] at h2; omega)); have HNE := Aside0.mk hne3; clear hB3 ho3 hf3 hat3 hne3) | fail)
  all_goals go_wp2
  obtain ⟨W4, hW4, r0, r1⟩ := set2 HB3.out (.int .u8 b2) (.slice A3 m2.length c3')
  rw [← hW4]
  refine bodyPost_ret (by simp [results, Tryz.results32, go_sem, r0, r1]; try rfl) rfl ?_
  rw [hW4]
  have hnn : ((n.toNat + 4 : Nat) : Int) = n + 4 := by omega
  rw [HE.out]
  refine ⟨_, by rw [hnn], own_setCell (own_setCell HO3.out HNE.out _) HNE.out _, ?_⟩
  exact (HF2.out.trans hF3 (fun i hi h => by unfold only at h; omega)).set (fun h => absurd h (Nat.lt_irrefl _)) 0 _ |>.set (fun h => absurd h (Nat.lt_irrefl _)) 1 _
end Go.Proofs.YtfkamoiamebngaaGreatDoor.BroW

/- Bytes that lie anywhere in a block of their own, and append onto them. -/
namespace Go.Proofs.YtfkamoiamebngaaGreatDoor.BroW
open Go.RowKit Go.Proofs.YtfkamoiamebngaaGreatDoorW.PrintWords Go.Proofs.YtfkamoiamebngaaGreatDoorW.PrintMore Go.Proofs.YtfkamoiamebngaaGreatDoor.Fr Go.Proofs.YtfkamoiamebngaaGreatDoor.ScrW Go.Proofs.YtfkamoiamebngaaGreatDoor.ScrP Go.Proofs.YtfkamoiamebngaaGreatDoor.Mod
set_option linter.unusedVariables false
set_option linter.unusedSimpArgs false

theorem blk_second (w : World) (o o1 : Obj) : ((w.alloc o).alloc o1).heap[w.heap.size + 1]? = some o1 := by
  rw [← World.size_alloc w o]; exact blk_new _ _
/-- the block of a slice that has places -/
def tlB (v : Value) : Nat → Prop := fun i => ∃ ad n c, v = .slice (some ad) n c ∧ 0 < c ∧ ad.block = i
/-- v is a slice of these bytes; its places up to the capacity may be written -/
def IsTl (W : World) (v : Value) (xs : List Int) : Prop :=
  ∃ A cap, v = .slice A xs.length cap ∧ xs.length ≤ cap ∧ cap ≤ maxLen ∧ ReadsInt W .u8 A xs.length xs ∧ (A = none → cap = 0) ∧ (0 < cap → ∃ g off, A = some ⟨g, off, none⟩ ∧ W.there g off cap)
theorem isTl_nil (W : World) : IsTl W (.slice none 0 0) [] := ⟨none, 0, rfl, Nat.le_refl _, Nat.zero_le _, reads_nil W .u8 none, fun _ => rfl, fun h => by omega⟩
theorem there_fr {S : Nat → Prop} {w w1 : World} (h : Fr S w w1) {g off n : Nat} (ht : w.there g off n) (hn : 0 < n → ¬ S g) : w1.there g off n := fun j hj => by
  have h0 := (ht j hj).1
  obtain ⟨v, hv⟩ := Option.isSome_iff_exists.1 h0
  have hlt := World.block_lt_of_cell? w (⟨g, off + j, none⟩ : Addr) hv
  have hb := h.block g hlt (hn (by omega))
  refine ⟨?_, ?_⟩
  · rw [World.cell?_of_block (a := ⟨g, off + j, none⟩) hb]; exact h0
  · rw [World.frozen?_of_block (a := ⟨g, off + j, none⟩) hb]; exact (ht j hj).2
theorem IsTl.fr {S : Nat → Prop} {w w1 : World} {v : Value} {xs : List Int} (h : IsTl w v xs) (hF : Fr S w w1) (hn : ∀ i, tlB v i → ¬ S i) : IsTl w1 v xs := by
  obtain ⟨A, cap, rfl, h1, h2, h3, h4, h5⟩ := h
  refine ⟨A, cap, rfl, h1, h2, ?_, h4, fun h0 => ?_⟩
  · rcases Nat.eq_zero_or_pos cap with h0 | h0
    · obtain rfl : xs = [] := List.eq_nil_of_length_eq_zero (by omega)
      exact reads_nil _ _ _
    · exact hF.reads h3 fun ad e => hn _ ⟨ad, _, _, by rw [e], h0, rfl⟩
  · obtain ⟨g, off, e, ht⟩ := h5 h0
    exact ⟨g, off, e, there_fr hF ht (fun _ => hn g ⟨_, _, _, by rw [e], h0, rfl⟩)⟩
theorem IsTl.lt {w : World} {v : Value} {xs : List Int} (h : IsTl w v xs) {i : Nat} (hi : tlB v i) : i < w.heap.size := by
  obtain ⟨A, cap, rfl, h1, h2, h3, h4, h5⟩ := h
  obtain ⟨ad, n, c, e, hc, rfl⟩ := hi
  injection e with e1 e2 e3
  subst e3
  obtain ⟨g, off, e, ht⟩ := h5 hc
  rw [e] at e1
  injection e1 with e1
  subst e1
  obtain ⟨v, hv⟩ := Option.isSome_iff_exists.1 (ht 0 hc).1
  exact World.block_lt_of_cell? w (⟨g, off + 0, none⟩ : Addr) hv
theorem isTl_own {w : World} {b : Nat} {v : Value} {xs : List Int} (h : w.ownsRow b 5 1 v xs.length (nums .u8 xs)) : IsTl w v xs := by
  obtain ⟨A, c, rfl⟩ := own_slice h
  have hr := own_reads' h
  rcases h.2 with ⟨e, h0⟩ | ⟨g, cap, cur, e, hb, hh, hn, hm, hs, hx⟩
  · simp only [Value.slice.injEq] at e
    obtain ⟨rfl, _, rfl⟩ := e
    exact ⟨none, 0, rfl, by omega, Nat.zero_le _, hr, fun _ => rfl, fun h => by omega⟩
  · simp only [Value.slice.injEq] at e
    obtain ⟨rfl, _, rfl⟩ := e
    refine ⟨_, _, rfl, hn, hm, hr, (fun h => by cases h), fun h0 => ⟨g, 0, rfl, fun j hj => ?_⟩⟩
    refine ⟨?_, ?_⟩
    · have : w.cell? ⟨g, 0 + j, none⟩ = cur[0 + j]? := by unfold World.cell?; rw [hh]; rfl
      rw [this]
      simp
      omega
    · unfold World.frozen?; rw [hh]; simp
theorem own_tlB {w : World} {b : Nat} {e : TypeId} {size n : Nat} {v : Value} {xs : List Value} (h : w.ownsRow b e size v n xs) {i : Nat} (hi : tlB v i) : v.ownBlock = some i := by
  obtain ⟨ad, n1, c, e, hc, rfl⟩ := hi
  rcases h.2 with ⟨e2, h0⟩ | ⟨g, cap, cur, e2, _⟩
  · rw [e] at e2; cases e2
  · rw [e] at e2
    simp only [Value.slice.injEq, Option.some.injEq] at e2
    obtain ⟨rfl, _, _⟩ := e2
    rw [e]; rfl
theorem fr_grown {w w1 : World} (h : w.grownBy w1 none) (S : Nat → Prop) : Fr S w w1 := ⟨h.os, h.tape, h.output, h.size, fun i hi _ => h.block i hi (by simp)⟩
theorem fr_setCells {w : World} {S : Nat → Prop} (b o : Nat) (vs : List Value) (hS : S b) : Fr S w (w.setCells b o vs) := by
  induction vs generalizing o w with
  | nil => exact Fr.refl _ _
  | cons v vs ih =>
    rw [World.setCells]
    exact ((Fr.refl S w).set (fun _ => hS) o v).trans (ih (o + 1)) (fun i _ h => h)

section
variable {P : Program} {ops : Array Oper} {Q : Exit → Act → World → Prop} {rest : List Oper} {a : Act} {o : Oper} {W : World}
/-- append of what can be read, onto such bytes -/
theorem app_tl (hgd : o.guard = none) (s x : Operand) (t : TypeId) (ho : o.op = .call { callee := .builtin .append, args := #[s, x], argTypes := #[t, t] })
    (ht : P.underlying t = some (.slice 5)) (hinfo : (P.info? 5).map (fun i => (i.zero, i.size, i.bytes)) = some (some (.int .u8 0), 1, 1))
    (v : Value) (xs ys : List Int) (A : Option Addr) (m c : Nat) (hs : a.eval s = v) (hx : a.eval x = .slice A m c)
    (HO : IsTl W v xs) (HR : ReadsInt W .u8 A m ys) (hl : xs.length + m ≤ 1000000)
    (h : ∀ v1 w1, IsTl w1 v1 (xs ++ ys) → Fr (tlB v) W w1 → (∀ i, tlB v1 i → tlB v i ∨ W.heap.size ≤ i) → wpList P ops Q rest (a.put o.dst v1) w1) :
    wpList P ops Q (o :: rest) a W := by
  obtain ⟨i0, hi, hzz⟩ := Option.map_eq_some_iff.1 hinfo
  simp only [Prod.mk.injEq] at hzz
  obtain ⟨hz0, hz1, hz2⟩ := hzz
  have hym : ys.length = m := HR.1
  obtain ⟨B, cap, rfl, h1, h2, h3, h4, h5⟩ := HO
  by_cases hm : m = 0
  · subst hm
    obtain rfl : ys = [] := List.eq_nil_of_length_eq_zero hym
    have hr1 : (Builtin.append_ #[t, t] o.type #[.slice B xs.length cap, .slice A 0 c]).run P W = .ok (.slice B xs.length cap) W := by
      rcases B with _ | ⟨bb, bo, bs⟩
      · have hc := h4 rfl
        subst hc
        have : xs.length = 0 := by omega
        rw [this]
        rcases A with _ | A <;> simp [Builtin.append_, run_underlying ht, sizeOf, typeInfo, hi, Builtin.lenOf, Builtin.firstCells, storeCells, loadCells, loadCellsFrom]
      · rcases A with _ | A <;> simp [Builtin.append_, run_underlying ht, sizeOf, typeInfo, hi, Builtin.lenOf, Builtin.firstCells, h1, storeCells, loadCells, loadCellsFrom]
    refine wpList_plain hgd fun K hK' => ?_
    unfold Oper.wp
    simp [execOp, ho, resolve, invoke, builtin, hs, hx, hr1, Result.andThen]
    refine hK' _ _ (h _ _ ?_ (Fr.refl _ _) (fun i hi => .inl hi))
    rw [List.append_nil]
    exact ⟨B, cap, rfl, h1, h2, h3, h4, h5⟩
  · obtain ⟨ad, rfl, hcs⟩ := HR.2.2 (by omega)
    have hnews : ∀ j u, (nums .u8 ys)[j]? = some u → W.cell? (ad.add j) = some u := fun j u hu => by
      have hj : j < ys.length := by
        rcases Nat.lt_or_ge j ys.length with h | h
        · exact h
        · rw [List.getElem?_eq_none (by simp [nums]; exact h)] at hu; cases hu
      rw [hcs j (by omega)]
      simp only [nums, List.getElem?_map, List.getElem?_eq_getElem hj, Option.map_some, Option.some.injEq] at hu
      rw [← hu]; simp [hj]
    have h1c : ∀ u ∈ nums .u8 ys, u.oneCell' = true := fun u hu => by
      simp only [nums, List.mem_map] at hu
      obtain ⟨q, _, rfl⟩ := hu
      rfl
    have hnl : (nums .u8 ys).length = m * 1 := by simp [nums, hym]
    by_cases hc0 : cap = 0
    · subst hc0
      obtain rfl : xs = [] := List.eq_nil_of_length_eq_zero (by omega)
      refine wpList_append_grows W hgd s x t ho 5 i0 (.int .u8 0) 1 1 ht hi hz0 hz1 hz2 rfl (by decide) B 0 0 [] hs (fun _ => ⟨rfl, rfl⟩) rfl (fun b _ j u hu => by simp at hu) ad m c (nums .u8 ys) hx hnl hnews h1c (by omega) (by unfold maxLen; simp at hl; omega) (by simp at hl; omega) ?_
      intro v1 w1 hown hgrow
      have ho1 : w1.ownsRow W.heap.size 5 1 v1 ys.length (nums .u8 ys) := by rw [hym]; simpa using hown
      refine h v1 w1 (by simpa using isTl_own ho1) (fr_grown hgrow _) (fun i hi => .inr (ho1.lt i (own_tlB ho1 hi)).1)
    · obtain ⟨g, off, rfl, hth⟩ := h5 (by omega)
      have holds : ∀ j u, (nums .u8 xs)[j]? = some u → W.cell? ⟨g, off + j, none⟩ = some u := fun j u hu => by
        have hj : j < xs.length := by
          rcases Nat.lt_or_ge j xs.length with h | h
          · exact h
          · rw [List.getElem?_eq_none (by simp [nums]; exact h)] at hu; cases hu
        obtain ⟨ad2, e2, hc2⟩ := h3.2.2 (by omega)
        injection e2 with e2
        subst e2
        have := hc2 j hj
        rw [Addr.add_lit] at this
        rw [this]
        simp only [nums, List.getElem?_map, List.getElem?_eq_getElem hj, Option.map_some, Option.some.injEq] at hu
        rw [← hu]; simp [hj]
      refine wpList_append_arg W hgd s x t ho 5 i0 (.int .u8 0) 1 1 ht hi hz0 hz1 hz2 rfl (by decide) g off xs.length cap (nums .u8 xs) hs (by simp [nums]) holds ad m c (nums .u8 ys) hx hnl hnews h1c ?_ (by unfold maxLen; omega) (by omega) ?_ ?_
      · intro hr j hj
        have hj2 : j < m := by simpa [hnl] using hj
        have := hth (xs.length + j) (by omega)
        rw [Nat.mul_one, Nat.add_assoc]
        exact this
      · intro hr
        refine h _ _ ?_ (fr_setCells g _ _ ⟨_, _, _, rfl, by omega, rfl⟩) (fun i hi => .inl ?_)
        · refine ⟨_, cap, by rw [List.length_append, hym], by rw [List.length_append]; omega, h2, ?_, (fun e => by cases e), fun _ => ⟨g, off, rfl, World.there_setCells hth _ _ _⟩⟩
          refine ⟨rfl, by rw [List.length_append]; omega, fun _ => ⟨_, rfl, fun j hj => ?_⟩⟩
          rw [List.length_append] at hj
          rw [Addr.add_lit, Nat.mul_one]
          have hthere : W.there g (off + xs.length) (nums .u8 ys).length := fun i hi2 => by
            have hi3 : i < m := by simpa [hnl] using hi2
            have := hth (xs.length + i) (by omega)
            rw [Nat.add_assoc]
            exact this
          by_cases hjx : j < xs.length
          · have hout := World.rangeAt_setCells_apart (w := W) (b' := g) (o' := off) (cs := nums .u8 xs) (fun i u hu => holds i u hu) g (off + xs.length) (nums .u8 ys) (.inr (.inl (by simp [nums])))
            have := hout j (.int .u8 (xs.getD j 0)) (by simp [nums, hjx])
            rw [this, List.getD_eq_getElem?_getD, List.getD_eq_getElem?_getD, List.getElem?_append_left hjx]
          · have hjy : j - xs.length < ys.length := by omega
            have hin := World.rangeAt_setCells_same W g (off + xs.length) (nums .u8 ys) hthere
            have := hin (j - xs.length) (.int .u8 (ys.getD (j - xs.length) 0)) (by simp [nums, hjy])
            rw [show off + xs.length + (j - xs.length) = off + j by omega] at this
            rw [this, List.getD_eq_getElem?_getD, List.getD_eq_getElem?_getD, List.getElem?_append_right (by omega)]
        · obtain ⟨ad1, n1, c1, e1, hc1, rfl⟩ := hi
          injection e1 with e1 e2 e3
          injection e1 with e1
          subst e1
          exact ⟨_, _, _, rfl, by omega, rfl⟩
      · intro hg2 v1 w1 hown hgrow
        have ho1 : w1.ownsRow W.heap.size 5 1 v1 (xs ++ ys).length (nums .u8 (xs ++ ys)) := by rw [List.length_append, hym]; simpa [nums] using hown
        exact h v1 w1 (isTl_own ho1) (fr_grown hgrow _) (fun i hi => .inr (ho1.lt i (own_tlB ho1 hi)).1)
end
end Go.Proofs.YtfkamoiamebngaaGreatDoor.BroW
