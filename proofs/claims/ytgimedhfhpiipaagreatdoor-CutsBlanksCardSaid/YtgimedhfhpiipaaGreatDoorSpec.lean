/-
  Plain functions (no program in sight): what cuts.Parse, cuts.Check, cuts.Print, cuts.Length and their helpers compute, over lists of bytes. No conditions.
-/
import Derived.Lib.ValidLaws
import Derived.Lib.MapLaws
import Derived.Lib.TrimUEq
import Derived.Lib.AtoiAll
import Derived.Lib.ItoaNum
namespace Go.Proofs.Cuts
open Go.Lib

/-- An event, a list, a word. -/
structure Ev where
  reel : ByteArray
  i : Int
  o : Int
  fade : Int
  note : ByteArray
structure CL where
  title : ByteArray
  rate : Int
  evs : List Ev
structure Wd where
  at_ : Int
  s : ByteArray
  text : Bool
  bad : Bool

def bl (s : ByteArray) : List UInt8 := s.data.toList
def ba (l : List UInt8) : ByteArray := ⟨l.toArray⟩

/-! ### names, rates -/
def nameByte (c : UInt8) : Bool := (97 ≤ c.toNat && c.toNat ≤ 122) || (48 ≤ c.toNat && c.toNat ≤ 57) || c.toNat == 95 || c.toNat == 45
def nameOk (l : List UInt8) : Bool := l.all nameByte && decide (1 ≤ l.length) && decide (l.length ≤ 16)

def rcount (r : Int) : Int := if r = 1 then 24 else if r = 2 then 25 else if r = 3 then 30 else if r = 4 then 30 else if r = 5 then 50 else if r = 6 then 60 else if r = 7 then 60 else 0
def rdrop (r : Int) : Int := if r = 4 then 2 else if r = 7 then 4 else 0
def isRate (r : Int) : Bool := decide (1 ≤ r) && decide (r ≤ 7)
def day (r : Int) : Int := 144 * (600 * rcount r - 9 * rdrop r)

/-! ### which lists may be -/
def fadesB (ahead : List Ev) (e : Ev) : Bool :=
  if e.fade = 0 then true
  else if e.fade < 0 ∨ 100 < e.fade then false
  else match ahead.getLast? with
    | none => false
    | some last => decide (e.fade ≤ e.o - e.i) && decide (e.fade ≤ last.o - last.i - last.fade)
/-- An event behind these: its error's number; 0: it may be. -/
def checkEv (ahead : List Ev) (e : Ev) (d : Int) : Int :=
  if nameOk (bl e.reel) = false then 193
  else if e.i < 0 ∨ e.o ≤ e.i ∨ d ≤ e.o then 194
  else if fadesB ahead e = false then 195
  else if 100 < e.note.size then 191
  else if validD (bl e.note) = false then 192
  else 0
def checkEvs (d : Int) : List Ev → List Ev → Nat → Option (Int × Int)
  | _, [], _ => none
  | ahead, e :: r, k => if checkEv ahead e d = 0 then checkEvs d (ahead ++ [e]) r (k + 1) else some ((k : Int), checkEv ahead e d)
/-- C1: none: it may be; else the event (-1: the list), and the error. -/
def check (l : CL) : Option (Int × Int) :=
  if 100 < l.title.size then some (-1, 191)
  else if validD (bl l.title) = false then some (-1, 192)
  else if isRate l.rate = false then some (-1, 181)
  else if 200 < l.evs.length then some (-1, 196)
  else checkEvs (day l.rate) [] l.evs 0

def lenSum : List Ev → Int
  | [] => 0
  | e :: r => e.o - e.i - e.fade + lenSum r

/-! ### timecode -/
def dig (c : UInt8) : Bool := 48 ≤ c.toNat && c.toNat ≤ 57
def dval (c : UInt8) : Int := (c.toNat : Int) - 48
def markOf (r : Int) : Nat := if 0 < rdrop r then 59 else 58
/-- Where a text is not as a name must be; none: it is. -/
def formGo (r : Int) : Nat → List UInt8 → Option Nat
  | k, [] => if k < 11 then some k else none
  | k, c :: t =>
    if k = 11 then some 11
    else if k = 8 then (if c.toNat = markOf r then formGo r (k + 1) t else some k)
    else if k % 3 = 2 then (if c.toNat = 58 then formGo r (k + 1) t else some k)
    else if dig c then formGo r (k + 1) t else some k
def part (l : List UInt8) (k : Nat) : Int := 10 * dval (l.getD k 0) + dval (l.getD (k + 1) 0)
/-- timecode.Number: the number; none: an error. -/
def number (r : Int) (l : List UInt8) : Option Int :=
  if isRate r = false then none
  else if (formGo r 0 l).isSome then none
  else
    let hour := part l 0; let minute := part l 3; let sec := part l 6; let frame := part l 9
    if 23 < hour then none
    else if 59 < minute then none
    else if 59 < sec then none
    else if rcount r ≤ frame then none
    else if minute % 10 ≠ 0 ∧ sec = 0 ∧ frame < rdrop r then none
    else some (rcount r * (60 * (60 * hour + minute) + sec) + frame - rdrop r * ((60 * hour + minute) - (60 * hour + minute) / 10))

def two (n : Int) : List UInt8 := [UInt8.ofNat (48 + (n / 10).toNat), UInt8.ofNat (48 + (n % 10).toNat)]
def dropped (r n : Int) : Int :=
  let ten := 600 * rcount r - 9 * rdrop r
  let rest := n % ten
  (9 * (n / ten) + if 60 * rcount r ≤ rest then 1 + (rest - 60 * rcount r) / (60 * rcount r - rdrop r) else 0) * rdrop r
/-- timecode.Name of a number of its day. -/
def nameOf (r n : Int) : List UInt8 :=
  let m := n + dropped r n
  let frame := m % rcount r
  let sec := m / rcount r
  two (sec / 3600) ++ [58] ++ two (sec / 60 % 60) ++ [58] ++ two (sec % 60) ++ [UInt8.ofNat (markOf r)] ++ two frame

/-! ### words of a line -/
/-- cuts.quote behind the quote: the text, is it none that may be, how many bytes of all; by runes. -/
def quoteGo : Nat → List UInt8 → Nat → Bool → Bool → List UInt8 → (List UInt8 × Bool × Nat)
  | 0, _, k, _, _, _ => ([], true, k + 1)
  | f + 1, l, k, turned, bad, out =>
    if l = [] then ([], true, k + 1)
    else
      let c := (decodeL l).1
      let r := l.drop (decodeL l).2
      let k' := k + (decodeL l).2
      if turned then
        if c = 34 ∨ c = 92 then quoteGo f r k' false bad (out ++ [UInt8.ofNat c])
        else if c = 110 then quoteGo f r k' false bad (out ++ [10])
        else quoteGo f r k' false true out
      else if c = 92 then quoteGo f r k' true bad out
      else if c = 34 then (out, bad, k + 2)
      else quoteGo f r k' false bad (out ++ encodeRune (c : Int))
def quoteR (l : List UInt8) : List UInt8 × Bool × Nat := quoteGo (l.length + 1) l 0 false false []
def plainLen (l : List UInt8) : Nat := (l.takeWhile fun c => !(c == 32 || c == 9)).length
def wordsGo : Nat → List UInt8 → Nat → List Wd × Nat
  | 0, _, at_ => ([], at_)
  | f + 1, l, at_ =>
    match l with
    | [] => ([], at_)
    | c :: t =>
      if c = 32 ∨ c = 9 then wordsGo f t (at_ + 1)
      else if c = 35 then ([], at_)
      else if c = 34 then
        let q := quoteR t
        let r := wordsGo f (l.drop q.2.2) (at_ + q.2.2)
        (⟨at_, ba q.1, true, q.2.1⟩ :: r.1, r.2)
      else
        let n := plainLen l
        let r := wordsGo f (l.drop n) (at_ + n)
        (⟨at_, ba (l.take n), false, false⟩ :: r.1, r.2)
def words (l : List UInt8) (at_ : Nat) : List Wd × Nat := wordsGo (l.length + 1) l at_

/-! ### a line's words, one by one; errors: the place, the number -/
abbrev Err := Int × Int
def next (end_ : Int) (text : Bool) : List Wd → Except Err (Wd × List Wd)
  | [] => .error (end_, 193)
  | w :: r =>
    if w.bad = true ∨ w.text ≠ text then .error (w.at_, 193)
    else if text = true ∧ 100 < w.s.size then .error (w.at_, 191)
    else .ok (w, r)
def plainW (end_ : Int) (holds : ByteArray → Bool) (l : List Wd) : Except Err (Wd × List Wd) :=
  match next end_ false l with
  | .error e => .error e
  | .ok (w, r) => if holds w.s then .ok (w, r) else .error (w.at_, 193)
def timeW (end_ : Int) (rate : Int) (l : List Wd) : Except Err (Int × Wd × List Wd) :=
  match next end_ false l with
  | .error e => .error e
  | .ok (w, r) => match number rate (bl w.s) with
    | none => .error (w.at_, 194)
    | some n => .ok (n, w, r)
def doneW : List Wd → Option Err
  | [] => none
  | w :: _ => some (w.at_, 193)

def listS : ByteArray := ba [108, 105, 115, 116]
def cutS : ByteArray := ba [99, 117, 116]
def fadeS : ByteArray := ba [102, 97, 100, 101]
def rateName (r : Int) : List UInt8 :=
  if r = 1 then [50, 52] else if r = 2 then [50, 53] else if r = 3 then [51, 48] else if r = 4 then [51, 48, 100]
  else if r = 5 then [53, 48] else if r = 6 then [54, 48] else if r = 7 then [54, 48, 100] else []
def rateOf (l : List UInt8) : Int :=
  if l = [50, 52] then 1 else if l = [50, 53] then 2 else if l = [51, 48] then 3 else if l = [51, 48, 100] then 4
  else if l = [53, 48] then 5 else if l = [54, 48] then 6 else if l = [54, 48, 100] then 7 else 0

def headLine (end_ : Int) (l : List Wd) : Except Err (ByteArray × Int) :=
  match plainW end_ (fun s => s == listS) l with
  | .error e => .error e
  | .ok (_, l1) =>
    match plainW end_ (fun s => decide (rateOf (bl s) ≠ 0)) l1 with
    | .error e => .error e
    | .ok (rate, l2) =>
      match next end_ true l2 with
      | .error e => .error e
      | .ok (title, l3) =>
        match doneW l3 with
        | some e => .error e
        | none => .ok (title.s, rateOf (bl rate.s))

def fadeVal (l : List UInt8) : Int := match atoiAll l with | .ok n => n | _ => 0
def isFade (l : List UInt8) : Bool := match atoiAll l with | .ok n => decide (1 ≤ n) && decide (n ≤ 100) && (itoa n == l) | _ => false

/-- cuts.(*reader).event: the event that a line puts to a list. -/
def eventLine (end_ : Int) (cl : CL) (l : List Wd) : Except Err Ev :=
  if cl.evs.length = 200 then .error (match l with | [] => 0 | w :: _ => w.at_, 196)
  else
    match plainW end_ (fun s => s == cutS || s == fadeS) l with
    | .error e => .error e
    | .ok (first, l1) =>
      match (if first.s == fadeS then (match plainW end_ (fun s => isFade (bl s)) l1 with | .error e => .error e | .ok (n, r) => .ok (fadeVal (bl n.s), r)) else .ok (0, l1) : Except Err (Int × List Wd)) with
      | .error e => .error e
      | .ok (fade, l2) =>
        match plainW end_ (fun s => nameOk (bl s)) l2 with
        | .error e => .error e
        | .ok (name, l3) =>
          match timeW end_ cl.rate l3 with
          | .error e => .error e
          | .ok (i, _, l4) =>
            match timeW end_ cl.rate l4 with
            | .error e => .error e
            | .ok (o, out, l5) =>
              match (match l5 with | [] => .ok (ba [], []) | _ :: _ => (match next end_ true l5 with | .error e => .error e | .ok (n, r) => .ok (n.s, r)) : Except Err (ByteArray × List Wd)) with
              | .error e => .error e
              | .ok (note, l6) =>
                match doneW l6 with
                | some e => .error e
                | none =>
                  let ev : Ev := ⟨name.s, i, o, fade, note⟩
                  match check { cl with evs := cl.evs ++ [ev] } with
                  | none => .ok ev
                  | some (_, e) => if e = 194 then .error (out.at_, 194) else .error (first.at_, 195)

/-- The place of the first byte that belongs to no rune. -/
def unrulyGo : Nat → List UInt8 → Nat → Option Nat
  | 0, _, _ => none
  | f + 1, l, k => if l = [] then none else if (decodeL l).1 = 65533 ∧ (decodeL l).2 = 1 then some k else unrulyGo f (l.drop (decodeL l).2) (k + (decodeL l).2)
def unruly (l : List UInt8) : Option Nat := unrulyGo (l.length + 1) l 0

/-- How many bytes stand ahead of the next line feed, or of the end. -/
def lineLen (l : List UInt8) : Nat := (l.takeWhile fun c => !(c == 10)).length

def parseGo (N : Nat) : Nat → List UInt8 → Nat → Option CL → Except Err CL
  | 0, _, _, _ => .error (0, 0)
  | f + 1, l, at_, cl =>
    if l = [] then (match cl with | none => .error (N, 193) | some c => .ok c)
    else
      let n := lineLen l
      let ws := words (l.take n) at_
      let rest := l.drop (n + 1)
      let at' := at_ + n + 1
      match ws.1 with
      | [] => parseGo N f rest at' cl
      | w :: r =>
        match cl with
        | none => (match headLine ws.2 (w :: r) with | .error e => .error e | .ok (t, ra) => parseGo N f rest at' (some ⟨t, ra, []⟩))
        | some c => (match eventLine ws.2 c (w :: r) with | .error e => .error e | .ok ev => parseGo N f rest at' (some { c with evs := c.evs ++ [ev] }))

/-- cuts.Parse. -/
def parse (s : ByteArray) : Except Err CL :=
  if 20000 < s.size then .error (0, 191)
  else match unruly (bl s) with
    | some k => .error (k, 192)
    | none => parseGo s.size (s.size + 1) (bl s) 0 none
end Go.Proofs.Cuts
