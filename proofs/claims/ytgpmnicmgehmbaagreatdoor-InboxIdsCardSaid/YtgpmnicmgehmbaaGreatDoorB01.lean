/- The plain functions that the given Go functions compute, layer by layer: bytes are lists, no memory.
   How bytes, rows of bytes and the blocks of objects lie in memory, and what of them a change elsewhere leaves as it was.
   Rows that the code owns: one cell an element; what append does to them.
   A range over an iterator that keeps its place in one cell of its own: the law of the statement, for loops that run to their end.
   Plain laws of texts that are cut at a sign.
   The library's functions that the program calls, met by the shelf's contracts, in these texts' words. -/
import Derived.Test.YtgpmnicmgehmbaaGreatDoorProg
import Derived.WalkKit
import Derived.Below
import Derived.Lib.Hide
import Derived.Deep.QuietTactic
import Derived.BigQuiet
import Derived.Outline
import Derived.WalkLawsBesides
import Derived.Laws.EntriesVeiled
import Derived.Laws.AppendOwn
import Derived.Laws.Tables
import Derived.Laws.Rows
import Derived.Shelf.Bytes.SlSmallAll
import Derived.Laws.AppendOwnNone
import Derived.OwnWalk
import Derived.KernelRfl
import Derived.Deep.RegionHeld3
import Derived.Deep.AppendLies
import Derived.StillTailTactics
import Derived.OwnWalkIn
import Derived.RangeFuncNested
import Derived.RangeFuncCalls
import Derived.RangeFuncLeaves
import Derived.Lib.IndexMore
import Derived.Test.YtgpmnicmgehmbaaGreatDoorShelf

namespace Lamp

abbrev Bytes := List UInt8

/-- The text's value. -/
def ofL (l : Bytes) : ByteArray := ⟨l.toArray⟩

/-! ### crc -/
def crcStep (x : UInt32) : UInt32 := (x >>> 1) ^^^ (0xEDB88320 &&& (0 - (x &&& 1)))
def crcRow (i : Nat) : UInt32 := crcStep (crcStep (crcStep (crcStep (crcStep (crcStep (crcStep (crcStep (UInt32.ofNat i))))))))
def crcByte (x : UInt32) (c : UInt8) : UInt32 := crcRow (x.toUInt8 ^^^ c).toNat ^^^ (x >>> 8)
def crcUpd (sum : UInt32) (b : Bytes) : UInt32 := ~~~ (b.foldl crcByte (~~~ sum))
def four (n : UInt32) : Bytes := [(n >>> 24).toUInt8, (n >>> 16).toUInt8, (n >>> 8).toUInt8, n.toUInt8]

/-! ### entry -/
def entrySize (n : Int) : Int := if n < 1 ∨ 65536 < n then 0 else n + 8
/-- A record's bytes, of bytes that may be one. -/
def entryBytes (b : Bytes) : Bytes :=
  let h := four (UInt32.ofNat b.length)
  h ++ four (crcUpd (crcUpd 0 h) b) ++ b
def fits (b : Bytes) : Bool := 1 ≤ b.length && b.length ≤ 65536

/-! ### deframe -/
structure Def where
  most : Int
  inn : Bool
  fin : Bool
  now : Bytes
  found : List Bytes
  junk : Int
  over : Int
  broken : Int

namespace Def
def outside (d : Def) : Def := { d with inn := false, fin := false, now := [] }
def begin (d : Def) : Def := { d with inn := true, fin := false, now := [] }
def lay (d : Def) (b : Bytes) : Def :=
  if d.most < (d.now ++ b).length then ({ d with now := d.now ++ b, over := d.over + 1 } : Def).outside else { d with now := d.now ++ b }
def skip (d : Def) (c : UInt8) : Def := if c = 11 then d.begin else { d with junk := d.junk + 1 }
def take (d : Def) (c : UInt8) : Def :=
  if c = 11 then ({ d with broken := d.broken + 1 } : Def).begin
  else if d.fin = true ∧ c = 13 then ({ d with found := d.found ++ [d.now] } : Def).outside
  else if c = 28 ∧ d.fin = false then { d with fin := true }
  else if c = 28 then d.lay [28]
  else if d.fin = true then ({ d with fin := false } : Def).lay [28, c]
  else d.lay [c]
def step (d : Def) (c : UInt8) : Def := if d.inn then d.take c else d.skip c
def feed (d : Def) (b : Bytes) : Def := b.foldl step d
def held (d : Def) : Int := if d.inn then (if d.fin then d.now.length + 2 else d.now.length + 1) else 0
def new (most : Int) : Def := ⟨most, false, false, [], [], 0, 0, 0⟩
end Def

/-! ### frame -/
/-- Is there an End with a Tail behind it? -/
def endTail : Bytes → Bool
  | [] => false
  | c :: l => (c == 28 && l.head? == some 13) || endTail l
def frameGood (b : Bytes) : Bool := !b.contains 11 && !endTail b && !(b.getLast? == some 28)
def frameWrap (b : Bytes) : Bytes := 11 :: b ++ [28, 13]

/-! ### delim -/
structure Delims where
  field : UInt8
  part : UInt8
  again : UInt8
  esc : UInt8
  sub : UInt8
  deriving DecidableEq

namespace Delims
def plain : Delims := ⟨124, 94, 126, 92, 38⟩
def five (d : Delims) : Bytes := [d.field, d.part, d.again, d.esc, d.sub]
def others (d : Delims) : Bytes := [d.part, d.again, d.esc, d.sub]
end Delims

def signOk (c : UInt8) : Bool :=
  let letter := 97 ≤ (c ||| 32) && (c ||| 32) ≤ 122
  !(c ≤ 32 || 126 < c || letter || (48 ≤ c && c ≤ 57))
def allApart : Bytes → Bool
  | [] => true
  | c :: l => !l.contains c && allApart l
def Delims.right (d : Delims) : Bool := d.five.all signOk && allApart d.five

def delimRead (b : Bytes) : Except Int Delims :=
  match b with
  | m :: s :: h :: f :: p :: a :: e :: u :: x :: _ =>
    if m = 77 ∧ s = 83 ∧ h = 72 then
      let d : Delims := ⟨f, p, a, e, u⟩
      if d.right = true ∧ (x = f ∨ x = 13) then .ok d else .error 11
    else .error 11
  | _ => .error 7

/-! ### segment -/
/-- What stands between a sign's places. -/
def pieces (sep : UInt8) : Bytes → List Bytes
  | [] => [[]]
  | c :: l => if c = sep then [] :: pieces sep l else
    match pieces sep l with
    | [] => [[c]]
    | p :: ps => (c :: p) :: ps
def nth (s : Bytes) (sep : UInt8) (n : Int) : Bytes := if 1 ≤ n then (pieces sep s).getD (n - 1).toNat [] else []
def split (b : Bytes) : List Bytes := if (pieces 13 b).getLast? = some [] then (pieces 13 b).dropLast else pieces 13 b
def join (l : List Bytes) : Bytes := l.flatMap (· ++ [13])
def segName (s : Bytes) : Bytes := s.take 3
def msh : Bytes := [77, 83, 72]
/-- What stands behind a sign's first place. -/
def behind (sep : UInt8) : Bytes → Option Bytes
  | [] => none
  | c :: l => if c = sep then some l else behind sep l
def field0 (s : Bytes) (n : Int) (d : Delims) : Bytes × Int :=
  if segName s ≠ msh then
    match behind d.field s with
    | none => ([], 0)
    | some rest => (nth rest d.field n, (pieces d.field rest).length)
  else
    if (s.drop 3).head? = some d.field then
      let rest := s.drop 4
      (if n = 1 then [d.field] else nth rest d.field (n - 1), (pieces d.field rest).length + 1)
    else ([], 0)
def field (s : Bytes) (n : Int) (d : Delims) : Bytes := if n < 1 then [] else (field0 s n d).1
def fieldIs (s : Bytes) (n : Int) (d : Delims) : Bool := decide (1 ≤ n) && decide (n ≤ (field0 s n d).2)
def sepJoin (sep : UInt8) : List Bytes → Bytes
  | [] => []
  | [x] => x
  | x :: y :: l => x ++ sep :: sepJoin sep (y :: l)
def make (d : Delims) (name : Bytes) (l : List Bytes) : Bytes :=
  if name = msh then sepJoin d.field ((name ++ (l.take 2).flatten) :: l.drop 2) else sepJoin d.field (name :: l)

/-! ### msh -/
structure Head where
  d : Delims
  t : List Bytes
def Head.none : Head := ⟨⟨0, 0, 0, 0, 0⟩, [[], [], [], [], [], [], [], [], [], []]⟩
def Head.at (h : Head) (i : Nat) : Bytes := h.t.getD i []

def readHead (b : Bytes) : Except Int Head :=
  match delimRead b with
  | .error e => .error e
  | .ok d =>
    let s := (split b).headD []
    if field s 2 d ≠ d.others then .error 11
    else .ok ⟨d, (List.range 10).map fun (i : Nat) => field s (3 + (i : Int)) d⟩

def versions : List Bytes := [[50, 46, 49], [50, 46, 50], [50, 46, 51], [50, 46, 51, 46, 49], [50, 46, 52], [50, 46, 53], [50, 46, 53, 46, 49], [50, 46, 54], [50, 46, 55], [50, 46, 56]]
/-- A field's first component. -/
def first (f : Bytes) (d : Delims) : Bytes := nth (nth f d.again 1) d.part 1
def check (h : Head) : Int :=
  if h.at 6 = [] ∨ h.at 7 = [] ∨ 50 < (h.at 7).length then 14
  else if first (h.at 9) h.d ∉ versions then 12
  else if first (h.at 8) h.d ∉ [[80], [68], [84]] then 13
  else 0
/-- The texts up to the last that isn't empty. -/
def trimEnd : List Bytes → List Bytes
  | [] => []
  | x :: l => match trimEnd l with
    | [] => if x = [] then [] else [x]
    | y :: r => x :: y :: r
def writeHead (h : Head) : Except Int Bytes :=
  if h.d.right = false then .error 11
  else if h.t.any (fun s => s.contains h.d.field || s.contains 13) then .error 10
  else .ok (make h.d msh ([h.d.field] :: h.d.others :: trimEnd h.t))

/-! ### ack -/
def aa : Bytes := [65, 65]
def ae : Bytes := [65, 69]
def ar : Bytes := [65, 82]
def known (c : Bytes) : Bool := c == aa || c == ae || c == ar
def ackHead (h : Head) : Head :=
  ⟨h.d, [h.at 2, h.at 3, h.at 0, h.at 1, h.at 4, [], [65, 67, 75], h.at 7, h.at 8, h.at 9]⟩
def ackBuild (h : Head) (code : Bytes) : Except Int Bytes :=
  if known code = false then .error 17
  else match writeHead (ackHead h) with
    | .error e => .error e
    | .ok s => .ok (join [s, make h.d [77, 83, 65] [code, h.at 7]])

/-! ### accept -/
def upTo (sep : UInt8) : Bytes → Bytes
  | [] => []
  | c :: l => if c = sep then [] else c :: upTo sep l
/-- The head, the code, the error. -/
def verdict (b : Bytes) : Head × Bytes × Int :=
  match readHead b with
  | .error e => (Head.none, [], e)
  | .ok h =>
    if (upTo 13 b).contains 28 then (Head.none, [], 10)
    else
      let e := check h
      (h, if e = 0 then aa else if e = 14 then ae else if e = 12 ∨ e = 13 then ar else [], e)
def stored (b : Bytes) : Bool := (verdict b).2.1 == aa
def reply (b : Bytes) (kept : Bool) : Option Bytes :=
  let (h, code, _) := verdict b
  if code = [] ∨ frameGood b = false then none
  else
    let code := if code = aa ∧ kept = false then ae else code
    match ackBuild h code with
    | .error _ => none
    | .ok a => if frameGood a then some (frameWrap a) else none

end Lamp

/-! ### disk: a computation on a disk ends in a value, or in the power's going (the number of the change) -/
namespace Lamp
structure File where
  b : Bytes
  safe : Int
  deriving DecidableEq

structure Disk where
  files : List (Bytes × File)
  room : Int
  used : Int
  ops : Int
  arm : Int
  keep : Int
  fail : Int
  deriving DecidableEq

inductive Res (α : Type) where
  | ok (a : α)
  | lost (op : Int)
  deriving DecidableEq

def nameByte (c : UInt8) : Bool := (97 ≤ c && c ≤ 122) || (48 ≤ c && c ≤ 57) || c == 46
def named (s : Bytes) : Bool := s ≠ [] && s.length ≤ 32 && s.all nameByte

def fileOf (name : Bytes) : List (Bytes × File) → Option File
  | [] => none
  | (k, f) :: l => if k = name then some f else fileOf name l
/-- A file's new state; a file that wasn't there stands behind the others. -/
def layFile (name : Bytes) (f : File) : List (Bytes × File) → List (Bytes × File)
  | [] => [(name, f)]
  | (k, g) :: l => if k = name then (k, f) :: l else (k, g) :: layFile name f l
def strikeFile (name : Bytes) (l : List (Bytes × File)) : List (Bytes × File) := l.filter (·.1 ≠ name)

namespace Disk
def begin (d : Disk) : Disk := { d with ops := d.ops + 1 }
/-- Does the power go at this change (behind 'begin')? -/
def gone (d : Disk) : Bool := d.ops == d.arm
def crash (d : Disk) : Disk := { d with arm := 0 }
/-- A change that is done, or not, if the power goes at it. -/
def change {α : Type} (d : Disk) (f : Disk → Disk) (a : α) : Disk × Res α :=
  let d := d.begin
  let d' := if d.gone = false ∨ d.keep % 2 ≠ 0 then f d else d
  if d.gone then (d'.crash, .lost d.ops) else (d', .ok a)

def append (d : Disk) (name b : Bytes) : Disk × Res (Int × Int) :=
  if named name = false then (d, .ok (0, 16))
  else
    let d := d.begin
    let f := (fileOf name d.files).getD ⟨[], 0⟩
    let n := max 0 (min (b.length : Int) (d.room - d.used))
    let n := if d.gone then max 0 (min n d.keep) else n
    let d' : Disk := { d with files := layFile name ⟨f.b ++ b.take n.toNat, f.safe⟩ d.files, used := d.used + n }
    if d.gone then (d'.crash, .lost d.ops)
    else (d', .ok (n, if n < b.length then 4 else 0))

def truncate (d : Disk) (name : Bytes) (n : Int) : Disk × Res Int :=
  match fileOf name d.files with
  | none => (d, .ok 6)
  | some f =>
    if n < 0 ∨ f.b.length < n then (d, .ok 3)
    else d.change (fun d => { d with used := d.used - (f.b.length - n), files := layFile name ⟨f.b.take n.toNat, min f.safe n⟩ d.files }) 0

def sync (d : Disk) (name : Bytes) : Disk × Res Int :=
  match fileOf name d.files with
  | none => (d, .ok 6)
  | some f =>
    let fails := d.fail == 1
    let d : Disk := { d with fail := max 0 (d.fail - 1) }
    d.change (fun d => if fails then d else { d with files := layFile name ⟨f.b, f.b.length⟩ d.files }) (if fails then 5 else 0)

def new (room : Int) : Disk := ⟨[], room, 0, 0, 0, 0, 0⟩
end Disk

/-! ### wal -/
structure Log where
  name : Bytes
  l : List Bytes
  good : Int

def Log.add (d : Disk) (g : Log) (b : Bytes) : Disk × Log × Res Int :=
  if fits b = false then (d, g, .ok 9)
  else
    let x := entryBytes b
    let cut (d : Disk) (e : Int) : Disk × Log × Res Int :=
      match d.truncate g.name g.good with
      | (d, .ok _) => (d, g, .ok e)
      | (d, .lost o) => (d, g, .lost o)
    match d.append g.name x with
    | (d, .lost o) => (d, g, .lost o)
    | (d, .ok (_, e)) =>
      if e ≠ 0 then cut d e
      else match d.sync g.name with
        | (d, .lost o) => (d, g, .lost o)
        | (d, .ok e) => if e ≠ 0 then cut d e else (d, { g with l := g.l ++ [b], good := g.good + x.length }, .ok 0)

/-! ### inbox -/
structure Box where
  d : Def
  out : List Bytes
  seen : Int
  kept : Int

/-- All that an inbox's calls touch. -/
structure Sys where
  disk : Disk
  log : Log
  box : Box

namespace Sys
/-- One message; whether the power went. -/
def one (s : Sys) (m : Bytes) : Sys × Option Int :=
  let answer (s : Sys) (kept : Bool) : Sys :=
    let s : Sys := if kept then { s with box := { s.box with kept := s.box.kept + 1 } } else s
    match reply m kept with
    | some r => { s with box := { s.box with seen := s.box.seen + 1, out := s.box.out ++ [r] } }
    | none => s
  if stored m then
    match Log.add s.disk s.log m with
    | (d, g, .ok e) => (answer { s with disk := d, log := g } (e == 0), none)
    | (d, g, .lost o) => ({ s with disk := d, log := g }, some o)
  else (answer s false, none)
def many (s : Sys) : List Bytes → Sys × Option Int
  | [] => (s, none)
  | m :: l => match s.one m with
    | (s, none) => s.many l
    | (s, some o) => (s, some o)
def feed (s : Sys) (b : Bytes) : Sys × Option Int :=
  let d := s.box.d.feed b
  many { s with box := { s.box with d := { d with found := [] } } } d.found
end Sys
end Lamp

/-! ### what is small stays small -/
namespace Lamp
/-- A deframer whose counts are at most N. -/
structure Def.Ok (d : Def) (N : Int) : Prop where
  m1 : 1 ≤ d.most
  m2 : d.most ≤ 65536
  now : (d.now.length : Int) ≤ d.most
  j0 : 0 ≤ d.junk
  j1 : d.junk ≤ N
  o0 : 0 ≤ d.over
  o1 : d.over ≤ N
  b0 : 0 ≤ d.broken
  b1 : d.broken ≤ N

theorem Def.Ok.mono {d : Def} {N M : Int} (h : d.Ok N) (hm : N ≤ M) : d.Ok M :=
  ⟨h.m1, h.m2, h.now, h.j0, Int.le_trans h.j1 hm, h.o0, Int.le_trans h.o1 hm, h.b0, Int.le_trans h.b1 hm⟩
theorem Def.Ok.lay {d : Def} {N : Int} (h : d.Ok N) (b : Bytes) : (d.lay b).Ok (N + 1) := by
  obtain ⟨h1, h2, h3, h4, h5, h6, h7, h8, h9⟩ := h
  unfold Def.lay
  split
  · exact ⟨h1, h2, by simp [Def.outside]; omega, h4, by simp [Def.outside]; omega, by simp [Def.outside]; omega, by simp [Def.outside]; omega, h8, by simp [Def.outside]; omega⟩
  · rename_i hn
    exact ⟨h1, h2, by simpa using hn, h4, by simp; omega, h6, by simp; omega, h8, by simp; omega⟩
theorem Def.Ok.fresh {d : Def} {N : Int} (h : d.Ok N) (inn fin : Bool) (fo : List Bytes) : ({ d with inn := inn, fin := fin, now := [], found := fo } : Def).Ok N :=
  ⟨h.m1, h.m2, by simp; exact Int.le_trans (by decide) h.m1, h.j0, h.j1, h.o0, h.o1, h.b0, h.b1⟩
theorem Def.Ok.take {d : Def} {N : Int} (h : d.Ok N) (c : UInt8) : (d.take c).Ok (N + 1) := by
  unfold Def.take
  split
  · exact ⟨h.m1, h.m2, by simp [Def.begin]; exact Int.le_trans (by decide) h.m1, h.j0, by simp [Def.begin]; have := h.j1; omega, h.o0, by simp [Def.begin]; have := h.o1; omega,
      by simp [Def.begin]; have := h.b0; omega, by simp [Def.begin]; have := h.b1; omega⟩
  · split
    · exact (h.fresh _ _ _).mono (by omega)
    · split
      · exact ⟨h.m1, h.m2, h.now, h.j0, by have := h.j1; simp; omega, h.o0, by have := h.o1; simp; omega, h.b0, by have := h.b1; simp; omega⟩
      · split
        · exact h.lay _
        · split
          · exact Def.Ok.lay (d := { d with fin := false }) ⟨h.m1, h.m2, h.now, h.j0, h.j1, h.o0, h.o1, h.b0, h.b1⟩ _
          · exact h.lay _
theorem Def.Ok.step {d : Def} {N : Int} (h : d.Ok N) (c : UInt8) : (d.step c).Ok (N + 1) := by
  unfold Def.step
  split
  · exact h.take c
  · unfold Def.skip
    split
    · exact (h.fresh _ _ _).mono (by omega)
    · exact ⟨h.m1, h.m2, h.now, by have := h.j0; simp; omega, by have := h.j1; simp; omega, h.o0, by have := h.o1; simp; omega, h.b0, by have := h.b1; simp; omega⟩
theorem Def.feed_snoc (d : Def) (b : Bytes) (c : UInt8) : d.feed (b ++ [c]) = (d.feed b).step c := by simp [Def.feed]
theorem Def.Ok.feed (b : Bytes) : ∀ {d : Def} {N : Int}, d.Ok N → (d.feed b).Ok (N + b.length) := by
  induction b with
  | nil => intro d N h; simpa [Def.feed] using h
  | cons c l ih =>
    intro d N h
    have := ih (h.step c)
    simp only [Def.feed, List.foldl_cons] at this ⊢
    exact this.mono (by simp; omega)
end Lamp


namespace Go.Proofs.YtgpmnicmgehmbaaGreatDoor
open Go.RowKit Lamp

/-- Beside the blocks of S, and what is new, the world w' is as w was. -/
structure Chg (S : Nat → Prop) (w w' : World) : Prop where
  os : w'.os = w.os
  tape : w'.tape = w.tape
  output : w'.output = w.output
  size : w.heap.size ≤ w'.heap.size
  block : ∀ k, k < w.heap.size → ¬ S k → w'.heap[k]? = w.heap[k]?

abbrev No : Nat → Prop := fun _ => False
abbrev In (L : List Nat) : Nat → Prop := fun k => k ∈ L

theorem Chg.refl (S : Nat → Prop) (w : World) : Chg S w w := ⟨rfl, rfl, rfl, Nat.le_refl _, fun _ _ _ => rfl⟩
theorem Chg.mono {S T : Nat → Prop} {w w' : World} (h : Chg S w w') (hs : ∀ k, k < w.heap.size → S k → T k) : Chg T w w' :=
  ⟨h.os, h.tape, h.output, h.size, fun k hk hn => h.block k hk fun hS => hn (hs k hk hS)⟩
theorem Chg.trans {S : Nat → Prop} {a b c : World} (h : Chg S a b) (k : Chg S b c) : Chg S a c :=
  ⟨k.os.trans h.os, k.tape.trans h.tape, k.output.trans h.output, Nat.le_trans h.size k.size,
    fun i hi hn => (k.block i (Nat.lt_of_lt_of_le hi h.size) hn).trans (h.block i hi hn)⟩
/-- A second step, at blocks that may be new since the first. -/
theorem Chg.then {S T : Nat → Prop} {a b c : World} (h : Chg S a b) (k : Chg T b c) (ht : ∀ i, T i → S i ∨ a.heap.size ≤ i) : Chg S a c :=
  ⟨k.os.trans h.os, k.tape.trans h.tape, k.output.trans h.output, Nat.le_trans h.size k.size,
    fun i hi hn => (k.block i (Nat.lt_of_lt_of_le hi h.size) (fun hT => (ht i hT).elim hn (fun hle => by omega))).trans (h.block i hi hn)⟩
theorem Chg.of_below {w w' : World} (h : Below w.heap.size w w') : Chg No w w' := ⟨h.os, h.tape, h.output, h.size, fun k hk _ => h.block k hk⟩
theorem Chg.below {w w' : World} (h : Chg No w w') : Below w.heap.size w w' := ⟨h.os, h.tape, h.output, h.size, fun k hk => h.block k hk (fun x => x)⟩
theorem Chg.of_grown {w w' : World} {row : Option Nat} (h : w.grownBy w' row) : Chg (fun k => row = some k) w w' :=
  ⟨h.os, h.tape, h.output, h.size, fun k hk hn => h.block k hk (fun e => hn e.symm)⟩
theorem Chg.setCell {S : Nat → Prop} {a w : World} (h : Chg S a w) {p : Addr} (hp : S p.block ∨ a.heap.size ≤ p.block) (u : Value) : Chg S a (w.setCell p u) :=
  h.then (T := fun k => k = p.block) ⟨rfl, rfl, rfl, by simp [World.setCell], fun k _ hk => Below.heap_setCell _ _ _ _ hk⟩ (by rintro i rfl; exact hp)
theorem Chg.alloc {S : Nat → Prop} {a w : World} (h : Chg S a w) (o : Obj) : Chg S a (w.alloc o) :=
  h.then (T := No) ⟨rfl, rfl, rfl, by simp, fun k hk _ => Below.heap_alloc _ _ _ hk⟩ (fun _ h => h.elim)
theorem Chg.drew {S : Nat → Prop} {a w : World} (h : Chg S a w) : Chg S a w.drew := ⟨h.os, h.tape, h.output, h.size, h.block⟩
theorem Chg.drewN {S : Nat → Prop} {a w : World} (h : Chg S a w) (n : Nat) : Chg S a (w.drewN n) := ⟨h.os, h.tape, h.output, h.size, h.block⟩
theorem Chg.heap {S : Nat → Prop} {w w' : World} (h : Chg S w w') {k : Nat} {o : Obj} (hk : w.heap[k]? = some o) (hn : ¬ S k) : w'.heap[k]? = some o :=
  (h.block k (Array.getElem?_eq_some_iff.1 hk).1 hn).trans hk

theorem Chg.cell {S : Nat → Prop} {w w' : World} (h : Chg S w w') {a : Addr} {v : Value} (hv : w.cell? a = some v) (hn : ¬ S a.block) : w'.cell? a = some v :=
  (World.cell?_of_block (h.block a.block (World.block_lt_of_cell? w a hv) hn)).trans hv
theorem Chg.frozen {S : Nat → Prop} {w w' : World} (h : Chg S w w') {a : Addr} (hlt : a.block < w.heap.size) (hn : ¬ S a.block) : w'.frozen? a = w.frozen? a :=
  World.frozen?_of_block (h.block a.block hlt hn)

theorem Chg.free {S : Nat → Prop} {w w' : World} (h : Chg S w w') {a : Addr} {v : Value} (hv : w.cell? a = some v) (hf : w.frozen? a = false) (hn : ¬ S a.block) : w'.frozen? a = false :=
  (h.frozen (World.block_lt_of_cell? w a hv) hn).trans hf
theorem cell_al {w : World} {a : Addr} {v : Value} (h : w.cell? a = some v) (o : Obj) : (w.alloc o).cell? a = some v := ((Chg.refl No w).alloc o).cell h (fun x => x)
theorem free_al {w : World} {a : Addr} {v : Value} (h : w.cell? a = some v) (hf : w.frozen? a = false) (o : Obj) : (w.alloc o).frozen? a = false := ((Chg.refl No w).alloc o).free h hf (fun x => x)

theorem Chg.setRow {S : Nat → Prop} {a w : World} (h : Chg S a w) {g : Nat} (hp : S g ∨ a.heap.size ≤ g) (cs : Array Value) : Chg S a (w.setRow g cs) :=
  h.then (T := fun k => k = g) ⟨rfl, rfl, rfl, by simp, fun k _ hk => setRow_other _ _ _ _ hk⟩ (by rintro i rfl; exact hp)

/-! ### a block of cells, known whole -/
theorem lt_of_heap {w : World} {p : Nat} {o : Obj} (h : w.heap[p]? = some o) : p < w.heap.size := (Array.getElem?_eq_some_iff.1 h).1
theorem cell_blk {w : World} {p : Nat} {c : Array Value} {T : TypeId} {fr : Nat × Nat} (h : w.heap[p]? = some (.cells c T fr)) (k : Nat) : w.cell? ⟨p, k, none⟩ = c[k]? := by
  simp [World.cell?, h]
theorem free_blk {w : World} {p : Nat} {c : Array Value} {T : TypeId} (h : w.heap[p]? = some (.cells c T (0, 0))) (k : Nat) : w.frozen? ⟨p, k, none⟩ = false := by
  simp [World.frozen?, h]
theorem set_blk {w : World} {p : Nat} {c : Array Value} {T : TypeId} {fr : Nat × Nat} (h : w.heap[p]? = some (.cells c T fr)) (k : Nat) (v : Value) :
    (w.setCell ⟨p, k, none⟩ v).heap[p]? = some (.cells (c.setIfInBounds k v) T fr) := by
  simp [World.setCell, Array.getElem?_modify, h]
theorem set_other {w : World} {p q : Nat} {o : Obj} (h : w.heap[q]? = some o) (k : Nat) (v : Value) (hn : q ≠ p) : (w.setCell ⟨p, k, none⟩ v).heap[q]? = some o :=
  (Below.heap_setCell w ⟨p, k, none⟩ v q hn).trans h

/-! ### texts -/
@[go_sem, simp] theorem ofL_toList (l : Bytes) : (ofL l).toList = l := by
  rw [ByteArray.toList_eq]; rfl
@[go_sem, simp] theorem ofL_data (l : Bytes) : (ofL l).data.toList = l := rfl
@[go_sem, simp] theorem ofL_size (l : Bytes) : (ofL l).size = l.length := by simp [ofL, ByteArray.size]

/-! ### bytes -/
def nums (l : Bytes) : List Int := l.map fun c => (c.toNat : Int)
theorem length_nums (l : Bytes) : (nums l).length = l.length := by simp [nums]
theorem range_nums (l : Bytes) : ∀ x ∈ nums l, 0 ≤ x ∧ x < 256 := by
  intro x hx
  simp only [nums, List.mem_map] at hx
  obtain ⟨c, _, rfl⟩ := hx
  exact ⟨by omega, by have := c.toNat_lt; omega⟩
theorem nums_getD (l : Bytes) (i : Nat) (h : i < l.length) : (nums l).getD i 0 = (l[i].toNat : Int) := by
  simp [nums, List.getD, h]

/-- The slice v reads as the bytes l. -/
def Bs (w : World) (v : Value) (l : Bytes) : Prop :=
  ∃ (p : Option Addr) (cap : Nat), v = .slice p l.length cap ∧ l.length ≤ cap ∧ l.length ≤ 140737488355328 ∧ (p = none → cap = 0) ∧ Lib.BytesIn w p l.length (nums l)

/-- None of the blocks of S bears the slice's bytes. -/
def Off (S : Nat → Prop) (v : Value) : Prop := ∀ b, v.ownBlock = some b → ¬ S b
/-- The slice's bytes lie in a block that there is. -/
theorem BytesIn.chg {S : Nat → Prop} {w w' : World} {p : Option Addr} {n : Nat} {xs : List Int} (h : Lib.BytesIn w p n xs) (hc : Chg S w w') (ho : ∀ b o s, p = some ⟨b, o, s⟩ → ¬ S b) : Lib.BytesIn w' p n xs := by
  intro hn
  obtain ⟨b, o, hp, hx⟩ := h hn
  refine ⟨b, o, hp, fun i hi => ?_⟩
  rw [← hx i hi]
  exact World.cell?_of_block (hc.block b (World.block_lt_of_cell? w ⟨b, o + i, none⟩ (hx i hi)) (ho b o none hp))
theorem Bs.chg {S : Nat → Prop} {w w' : World} {v : Value} {l : Bytes} (h : Bs w v l) (hc : Chg S w w') (ho : Off S v) : Bs w' v l := by
  obtain ⟨p, cap, rfl, h1, h2, h3, h4⟩ := h
  refine ⟨p, cap, rfl, h1, h2, h3, BytesIn.chg h4 hc ?_⟩
  rintro b o s rfl
  exact ho b rfl
theorem Bs.below {w w' : World} {v : Value} {l : Bytes} (h : Bs w v l) (hb : Below w.heap.size w w') : Bs w' v l :=
  h.chg (Chg.of_below hb) (fun _ _ x => x)
theorem Bs.nil (w : World) : Bs w (.slice none 0 0) [] := ⟨none, 0, rfl, Nat.le_refl _, Nat.zero_le _, fun _ => rfl, Lib.BytesIn.nil _ _ _⟩

/-- Where the bytes lie. -/
theorem Bs.at {w : World} {q : Option Addr} {l : Bytes} (h : Lib.BytesIn w q l.length (nums l)) : ∀ k (hk : k < l.length), ∃ bb o, q = some ⟨bb, o, none⟩ ∧ w.cell? ⟨bb, o + k, none⟩ = some (.int .u8 (l[k].toNat)) := by
  intro k hk
  obtain ⟨bb, o, hq, hx⟩ := h (by omega)
  exact ⟨bb, o, hq, by rw [hx k hk, nums_getD l k hk]⟩
/-- A byte's value. -/
def u8 (c : UInt8) : Value := .int .u8 c.toNat
/-- A row that the code owns, of bytes. -/
theorem Bs.of_own {w : World} {B : Nat} {e : TypeId} {v : Value} {l : Bytes} (h : w.ownsRow B e 1 v l.length (l.map u8)) (hn : l.length ≤ 140737488355328) : Bs w v l := by
  obtain ⟨_, h⟩ := h
  rcases h with ⟨rfl, h0⟩ | ⟨g, cap, cur, rfl, hb, hg, h1, h2, h3, h4⟩
  · obtain rfl : l = [] := List.eq_nil_of_length_eq_zero h0
    exact Bs.nil w
  · refine ⟨some ⟨g, 0, none⟩, cap, rfl, h1, hn, (by intro h; cases h), fun _ => ⟨g, 0, rfl, fun i hi => ?_⟩⟩
    rw [cell_blk hg, nums_getD l i hi]
    have h5 : (cur.toList.take (l.length * 1))[i]? = some (u8 l[i]) := by rw [h4]; simp [hi]
    rw [List.getElem?_take, if_pos (by omega)] at h5
    simpa [u8] using h5
end Go.Proofs.YtgpmnicmgehmbaaGreatDoor


namespace Go.Proofs.YtgpmnicmgehmbaaGreatDoor
open Go.RowKit Lamp

/-- The slice v is a row of the code's own, of the cells xs. -/
def Own (w : World) (E : TypeId) (v : Value) (xs : List Value) : Prop := w.ownsRow 0 E 1 v xs.length xs
/-- The cells that a slice leads to. -/
def Src (w : World) (x : Value) (news : List Value) : Prop :=
  (x = .slice none 0 0 ∧ news = []) ∨ ∃ ad c, x = .slice (some ad) news.length c ∧ ∀ j u, news[j]? = some u → w.cell? (ad.add j) = some u

theorem Own.nil (w : World) (E : TypeId) : Own w E (.slice none 0 0) [] := World.ownsRow_nil _ _ _ _
theorem Own.lt {w : World} {E : TypeId} {v : Value} {xs : List Value} (h : Own w E v xs) {k : Nat} (hk : v.ownBlock = some k) : k < w.heap.size := (World.ownsRow.lt h k hk).2
theorem Own.kept {S : Nat → Prop} {w w' : World} {E : TypeId} {v : Value} {xs : List Value} (h : Own w E v xs) (hc : Chg S w w') (ho : Off S v) : Own w' E v xs := by
  refine ⟨h.1, ?_⟩
  rcases h.2 with hn | ⟨g, cap, cur, rfl, hb, hgg, rest⟩
  · exact .inl hn
  · exact .inr ⟨g, cap, cur, rfl, hb, hc.heap hgg (ho g rfl), rest⟩
theorem Own.alloc {w : World} {E : TypeId} {v : Value} {xs : List Value} (h : Own w E v xs) (o : Obj) : Own (w.alloc o) E v xs := h.kept (S := No) ((Chg.refl _ _).alloc o) (fun _ _ x => x)
theorem Own.made (w : World) (E : TypeId) (cur : Array Value) (cap : Nat) (hm : cap ≤ maxLen) (hs : cur.size = cap) :
    Own (w.alloc (.cells cur E)) E (.slice (some ⟨w.heap.size, 0, none⟩) 0 cap) [] :=
  World.ownsRow_made w cur cap (Nat.zero_le _) hm (by omega)
theorem Own.lit (w : World) (E : TypeId) (cs : Array Value) (hm : cs.size ≤ maxLen) :
    Own (w.alloc (.cells cs E)) E (.slice (some ⟨w.heap.size, 0, none⟩) cs.size cs.size) cs.toList := by
  have h := World.ownsRow_lit (base := 0) (e := E) (size := 1) w cs cs.size (Nat.zero_le _) hm (by omega)
  unfold Own
  rw [Array.length_toList]
  exact h

/-- What is known of an element's type. -/
def Elem (P : Program) (E : TypeId) (z : Value) (bytes : Nat) : Prop := (P.info? E).map (fun i => (i.zero, i.size, i.bytes)) = some (some z, 1, bytes)

section
variable {P : Program} {w : World}
theorem run_app (t ty E : TypeId) (z : Value) (bytes : Nat) (ht : P.underlying t = some (.slice E)) (he : Elem P E z bytes) (hzs : z.cells.size = 1)
    (v : Value) (xs : List Value) (hown : Own w E v xs) (x : Value) (news : List Value) (hx : Src w x news) (h1 : ∀ u ∈ news, u.oneCell' = true)
    (hb : (xs.length + news.length) * bytes ≤ 140737488355328) (hp : xs.length + news.length ≤ maxLen) :
    ∃ v' w', (Builtin.append_ #[t, t] ty #[v, x]).run P w = .ok v' w' ∧ Own w' E v' (xs ++ news) ∧ Chg (fun k => v.ownBlock = some k) w w' ∧ (v'.ownBlock = v.ownBlock ∨ v'.ownBlock = some w.heap.size) ∧
      (news ≠ [] → ∃ g cap, v' = .slice (some ⟨g, 0, none⟩) (xs.length + news.length) cap ∧ xs.length + news.length ≤ cap) := by
  obtain ⟨i, hi, hz, hsz, hby⟩ := info_parts he
  rcases hx with ⟨rfl, rfl⟩ | ⟨ad, c, rfl, hc⟩
  · refine ⟨v, w, run_append_owned_none w 0 t ty E i 1 ht hi v _ xs hown, by simpa using hown, Chg.refl _ _, .inl rfl, fun h => absurd rfl h⟩
  · obtain ⟨v', w', hr, h2, h3, h4⟩ := run_append_own (P := P) w 0 t ty E i z 1 bytes ht hi hz hsz hby hzs (by decide) v xs.length xs hown ad news.length c news (by omega) hc h1 hp hb (Nat.zero_le _)
    refine ⟨v', w', hr, by unfold Own; rw [List.length_append]; exact h2, Chg.of_grown h3, ?_, ?_⟩
    · rcases hown.2 with ⟨rfl, h0⟩ | ⟨g, cap, cur, rfl, hbg, hg, hnc, hcm, hcs, htake⟩
      · by_cases hm : news = []
        · left
          rw [(h4.2 ⟨rfl, by simp [hm]⟩)]
        · right
          have hx0 : xs.length = 0 := h0
          have hpos : 0 < news.length := List.length_pos_iff.2 hm
          have hr2 := run_append_nil (P := P) w t ty E i z ht hi hz ad news.length c news (by rw [hsz]; omega) hc hpos (by simp only [maxLen] at hp; omega) (by rw [hby]; have := hb; rw [hx0] at this; simp only [Nat.zero_add] at this; omega)
          rw [hr] at hr2
          injection hr2 with e1 _
          rw [e1]; rfl
      · by_cases hroom : xs.length + news.length ≤ cap
        · left
          have hr2 := run_append_room (P := P) w t ty E i ht hi g xs.length cap cur hg ad news.length c news (by rw [hsz]; omega) hc h1 hroom (by rw [hsz]; omega)
          rw [hr] at hr2
          injection hr2 with e1 _
          rw [e1]; rfl
        · right
          have hr2 := run_append_grow (P := P) w t ty E i z ht hi hz ⟨g, 0, none⟩ xs.length cap xs (by rw [hsz]; omega) (hown.cells (g := g) rfl) ad news.length c news (by rw [hsz]; omega) hc (by omega) (by simp only [maxLen] at hp; omega)
            (by rw [hby]; exact growslice_fits (by omega) hb)
          rw [hr] at hr2
          injection hr2 with e1 _
          rw [e1]; rfl
    · intro hn
      rcases h2.2 with ⟨_, h0⟩ | ⟨g, cap, cur, hv, _, _, hle, _⟩
      · exact absurd (List.eq_nil_of_length_eq_zero (by omega)) hn
      · exact ⟨g, cap, hv, hle⟩

/-- A step of a region that draws, at an operation without a guard. -/
theorem step_wp {ops : Array Oper} {o : Oper} {a : Act} {K : Act → World → Prop} {Q : Exit → Act → World → Prop} {E : Prop} (hg : o.guard = none) (h : o.wp P a w K Q) :
    if Region.wanted o (yielded ops a.tmps) = true then Oper.wp P o a w K Q else E := by
  rw [if_pos (by simp [Region.wanted, hg])]
  exact h
/-- append at the operation: inside a region that draws its order. -/
theorem wp_app {o : Oper} {a : Act} {K : Act → World → Prop} {Q : Exit → Act → World → Prop} (s x : Operand) (t : TypeId)
    (ho : o.op = .call { callee := .builtin .append, args := #[s, x], argTypes := #[t, t] })
    (E : TypeId) (z : Value) (bytes : Nat) (ht : P.underlying t = some (.slice E)) (he : Elem P E z bytes) (hzs : z.cells.size = 1)
    (v : Value) (xs : List Value) (hs : a.eval s = v) (hown : Own w E v xs) (vx : Value) (news : List Value) (hx : a.eval x = vx) (hsrc : Src w vx news) (h1 : ∀ u ∈ news, u.oneCell' = true)
    (hb : (xs.length + news.length) * bytes ≤ 140737488355328) (hp : xs.length + news.length ≤ maxLen)
    (h : ∀ v' w', Own w' E v' (xs ++ news) → Chg (fun k => v.ownBlock = some k) w w' → (v'.ownBlock = v.ownBlock ∨ v'.ownBlock = some w.heap.size) →
      (news ≠ [] → ∃ g cap, v' = .slice (some ⟨g, 0, none⟩) (xs.length + news.length) cap ∧ xs.length + news.length ≤ cap) → K (a.put o.dst v') w') : o.wp P a w K Q := by
  obtain ⟨v', w', hr, h2, h3, h4, h5⟩ := run_app (P := P) (w := w) t o.type E z bytes ht he hzs v xs hown vx news hsrc h1 hb hp
  unfold Oper.wp execOp
  simp only [ho, resolve, invoke, builtin, Sem.run_bind, Sem.run_pure, Result.andThen_ok, List.map_toArray, List.map_cons, List.map_nil, hs, hx, hr]
  exact h v' w' h2 h3 h4 h5

/-- append at the operation. -/
theorem wpList_app {ops : Array Oper} {rest : List Oper} {o : Oper} {a : Act} {Q : Exit → Act → World → Prop} (hgd : o.guard = none) (s x : Operand) (t : TypeId)
    (ho : o.op = .call { callee := .builtin .append, args := #[s, x], argTypes := #[t, t] })
    (E : TypeId) (z : Value) (bytes : Nat) (ht : P.underlying t = some (.slice E)) (he : Elem P E z bytes) (hzs : z.cells.size = 1)
    (v : Value) (xs : List Value) (hs : a.eval s = v) (hown : Own w E v xs) (vx : Value) (news : List Value) (hx : a.eval x = vx) (hsrc : Src w vx news) (h1 : ∀ u ∈ news, u.oneCell' = true)
    (hb : (xs.length + news.length) * bytes ≤ 140737488355328) (hp : xs.length + news.length ≤ maxLen)
    (h : ∀ v' w', Own w' E v' (xs ++ news) → Chg (fun k => v.ownBlock = some k) w w' → (v'.ownBlock = v.ownBlock ∨ v'.ownBlock = some w.heap.size) →
      (news ≠ [] → ∃ g cap, v' = .slice (some ⟨g, 0, none⟩) (xs.length + news.length) cap ∧ xs.length + news.length ≤ cap) → wpList P ops Q rest (a.put o.dst v') w') :
    wpList P ops Q (o :: rest) a w :=
  wpList_plain hgd fun _ hK => wp_app s x t ho E z bytes ht he hzs v xs hs hown vx news hx hsrc h1 hb hp fun v' w' h2 h3 h4 h5 => hK _ _ (h v' w' h2 h3 h4 h5)
end

theorem Bs.src {w : World} {v : Value} {l : Bytes} (h : Bs w v l) : Src w v (l.map u8) := by
  obtain ⟨p, cap, rfl, h1, h2, h3, h4⟩ := h
  cases p with
  | none =>
    have := h3 rfl
    obtain rfl : l = [] := List.eq_nil_of_length_eq_zero (by omega)
    subst this
    exact .inl ⟨rfl, rfl⟩
  | some ad =>
    refine .inr ⟨ad, cap, by simp, fun j u hu => ?_⟩
    have hj : j < l.length := by
      rcases Nat.lt_or_ge j l.length with h | h
      · exact h
      · simp [List.getElem?_eq_none (by simpa using h)] at hu
    obtain ⟨b, o, hp, hx⟩ := h4 (by omega)
    cases hp
    rw [show (⟨b, o, none⟩ : Addr).add j = ⟨b, o + j, none⟩ from by unfold Addr.add; split <;> simp_all, hx j hj, nums_getD l j hj]
    simp [u8, hj] at hu ⊢
    exact hu
theorem u8_one (l : Bytes) : ∀ u ∈ l.map u8, u.oneCell' = true := by
  intro u hu
  simp only [List.mem_map] at hu
  obtain ⟨c, _, rfl⟩ := hu
  rfl

/-- What is known of the elements' types. -/
theorem elem_u8 : Elem Tryz.prog 5 (.int .u8 0) 1 := by unfold Elem; kernel_rfl
theorem elem_bytes : Elem Tryz.prog 22 (.slice none 0 0) 24 := by unfold Elem; kernel_rfl
theorem elem_string : Elem Tryz.prog 9 (.string ⟨#[]⟩) 16 := by unfold Elem; kernel_rfl

section
variable {w : World} {o : Oper} {a : Act} {Q : Exit → Act → World → Prop}
/-- append of something, at whatever type of one cell: what is appended is not nothing. -/
theorem wp_app1 {P : Program} {K : Act → World → Prop} (s x : Operand) (t : TypeId)
    (ho : o.op = .call { callee := .builtin .append, args := #[s, x], argTypes := #[t, t] })
    (E : TypeId) (z : Value) (bytes : Nat) (ht : P.underlying t = some (.slice E)) (he : Elem P E z bytes) (hzs : z.cells.size = 1)
    (v : Value) (xs : List Value) (hs : a.eval s = v) (hown : Own w E v xs) (vx : Value) (news : List Value) (hx : a.eval x = vx) (hsrc : Src w vx news) (h1 : ∀ u ∈ news, u.oneCell' = true) (hne : news ≠ [])
    (hb : (xs.length + news.length) * bytes ≤ 140737488355328) (hp : xs.length + news.length ≤ maxLen)
    (h : ∀ g cap w', Own w' E (.slice (some ⟨g, 0, none⟩) (xs.length + news.length) cap) (xs ++ news) → Chg (fun k => v.ownBlock = some k) w w' → (v.ownBlock = some g ∨ g = w.heap.size) →
      xs.length + news.length ≤ cap → K (a.put o.dst (.slice (some ⟨g, 0, none⟩) (xs.length + news.length) cap)) w') : o.wp P a w K Q :=
  wp_app s x t ho E z bytes ht he hzs v xs hs hown vx news hx hsrc h1 hb hp fun v' w' h2 h3 h4 h5 => by
    obtain ⟨g, cap, hv, hc⟩ := h5 hne
    subst hv
    refine h g cap w' h2 h3 ?_ hc
    rcases h4 with h4 | h4
    · exact .inl h4.symm
    · exact .inr (by simpa [Value.ownBlock] using h4)

/-- append of bytes to bytes. -/
theorem wp_appB {K : Act → World → Prop} (s x : Operand)
    (ho : o.op = .call { callee := .builtin .append, args := #[s, x], argTypes := #[22, 22] })
    (v : Value) (l : Bytes) (hs : a.eval s = v) (hown : Own w 5 v (l.map u8)) (vx : Value) (b : Bytes) (hx : a.eval x = vx) (hsrc : Src w vx (b.map u8)) (hne : b ≠ [])
    (hlen : l.length + b.length ≤ 140737488355328)
    (h : ∀ g cap w', Own w' 5 (.slice (some ⟨g, 0, none⟩) (l.length + b.length) cap) ((l ++ b).map u8) → Chg (fun k => v.ownBlock = some k) w w' → (v.ownBlock = some g ∨ g = w.heap.size) →
      l.length + b.length ≤ cap → K (a.put o.dst (.slice (some ⟨g, 0, none⟩) (l.length + b.length) cap)) w') : o.wp Tryz.prog a w K Q :=
  wp_app1 s x 22 ho 5 (.int .u8 0) 1 Tryz.underlying22 elem_u8 rfl v (l.map u8) hs hown vx (b.map u8) hx hsrc (u8_one b) (by simpa using hne)
    (by simpa using hlen) (by simp only [List.length_map, maxLen]; omega) fun g cap w' h2 h3 h4 h5 => by
      simp only [List.length_map] at h2 h5 ⊢
      exact h g cap w' (by simpa using h2) h3 h4 h5
theorem wpList_appB {ops : Array Oper} {rest : List Oper} (hgd : o.guard = none) (s x : Operand)
    (ho : o.op = .call { callee := .builtin .append, args := #[s, x], argTypes := #[22, 22] })
    (v : Value) (l : Bytes) (hs : a.eval s = v) (hown : Own w 5 v (l.map u8)) (vx : Value) (b : Bytes) (hx : a.eval x = vx) (hsrc : Src w vx (b.map u8)) (hne : b ≠ [])
    (hlen : l.length + b.length ≤ 140737488355328)
    (h : ∀ g cap w', Own w' 5 (.slice (some ⟨g, 0, none⟩) (l.length + b.length) cap) ((l ++ b).map u8) → Chg (fun k => v.ownBlock = some k) w w' → (v.ownBlock = some g ∨ g = w.heap.size) →
      l.length + b.length ≤ cap → wpList Tryz.prog ops Q rest (a.put o.dst (.slice (some ⟨g, 0, none⟩) (l.length + b.length) cap)) w') : wpList Tryz.prog ops Q (o :: rest) a w :=
  wpList_plain hgd fun _ hK => wp_appB s x ho v l hs hown vx b hx hsrc hne hlen fun g cap w' h2 h3 h4 h5 => hK _ _ (h g cap w' h2 h3 h4 h5)
/-- append of bytes, perhaps of none. -/
theorem wp_appB0 {K : Act → World → Prop} (s x : Operand)
    (ho : o.op = .call { callee := .builtin .append, args := #[s, x], argTypes := #[22, 22] })
    (v : Value) (l : Bytes) (hs : a.eval s = v) (hown : Own w 5 v (l.map u8)) (vx : Value) (b : Bytes) (hx : a.eval x = vx) (hsrc : Src w vx (b.map u8))
    (hlen : l.length + b.length ≤ 140737488355328)
    (h : ∀ q cap w', Own w' 5 (.slice q (l.length + b.length) cap) ((l ++ b).map u8) → Chg (fun k => v.ownBlock = some k) w w' → ((Value.slice q (l.length + b.length) cap).ownBlock = v.ownBlock ∨ (Value.slice q (l.length + b.length) cap).ownBlock = some w.heap.size) →
      K (a.put o.dst (.slice q (l.length + b.length) cap)) w') : o.wp Tryz.prog a w K Q :=
  wp_app s x 22 ho 5 (.int .u8 0) 1 Tryz.underlying22 elem_u8 rfl v (l.map u8) hs hown vx (b.map u8) hx hsrc (u8_one b)
    (by simpa using hlen) (by simp only [List.length_map, maxLen]; omega) fun v' w' h2 h3 h4 _ => by
      have hf : ∃ q cap, v' = .slice q (l.length + b.length) cap := by
        rcases h2.2 with ⟨e1, e2⟩ | ⟨g, cap, cur, e1, _⟩
        · exact ⟨none, 0, by rw [e1]; simp at e2; simp [e2]⟩
        · exact ⟨some ⟨g, 0, none⟩, cap, by rw [e1]; simp⟩
      obtain ⟨q, cap, rfl⟩ := hf
      exact h q cap w' (by simpa using h2) h3 h4
/-- append of rows of bytes. -/
theorem wp_appR {K : Act → World → Prop} (s x : Operand)
    (ho : o.op = .call { callee := .builtin .append, args := #[s, x], argTypes := #[29, 29] })
    (v : Value) (xs : List Value) (hs : a.eval s = v) (hown : Own w 22 v xs) (vx : Value) (news : List Value) (hx : a.eval x = vx) (hsrc : Src w vx news) (h1 : ∀ u ∈ news, u.oneCell' = true) (hne : news ≠ [])
    (hlen : (xs.length + news.length) * 24 ≤ 140737488355328)
    (h : ∀ g cap w', Own w' 22 (.slice (some ⟨g, 0, none⟩) (xs.length + news.length) cap) (xs ++ news) → Chg (fun k => v.ownBlock = some k) w w' → (v.ownBlock = some g ∨ g = w.heap.size) →
      xs.length + news.length ≤ cap → K (a.put o.dst (.slice (some ⟨g, 0, none⟩) (xs.length + news.length) cap)) w') : o.wp Tryz.prog a w K Q :=
  wp_app1 s x 29 ho 22 (.slice none 0 0) 24 Tryz.underlying29 elem_bytes rfl v xs hs hown vx news hx hsrc h1 hne hlen (by simp only [maxLen]; omega) h
theorem wpList_appR {ops : Array Oper} {rest : List Oper} (hgd : o.guard = none) (s x : Operand)
    (ho : o.op = .call { callee := .builtin .append, args := #[s, x], argTypes := #[29, 29] })
    (v : Value) (xs : List Value) (hs : a.eval s = v) (hown : Own w 22 v xs) (vx : Value) (news : List Value) (hx : a.eval x = vx) (hsrc : Src w vx news) (h1 : ∀ u ∈ news, u.oneCell' = true) (hne : news ≠ [])
    (hlen : (xs.length + news.length) * 24 ≤ 140737488355328)
    (h : ∀ g cap w', Own w' 22 (.slice (some ⟨g, 0, none⟩) (xs.length + news.length) cap) (xs ++ news) → Chg (fun k => v.ownBlock = some k) w w' → (v.ownBlock = some g ∨ g = w.heap.size) →
      xs.length + news.length ≤ cap → wpList Tryz.prog ops Q rest (a.put o.dst (.slice (some ⟨g, 0, none⟩) (xs.length + news.length) cap)) w') : wpList Tryz.prog ops Q (o :: rest) a w :=
  wpList_plain hgd fun _ hK => wp_appR s x ho v xs hs hown vx news hx hsrc h1 hne hlen fun g cap w' h2 h3 h4 h5 => hK _ _ (h g cap w' h2 h3 h4 h5)
end
theorem Src.one (w : World) (v : Value) (E : TypeId) : Src (w.alloc (.cells #[v] E)) (.slice (some ⟨w.heap.size, 0, none⟩) 1 1) [v] := by
  refine .inr ⟨⟨w.heap.size, 0, none⟩, 1, by simp, fun j u hu => ?_⟩
  rw [show (⟨w.heap.size, 0, none⟩ : Addr).add j = ⟨w.heap.size, j, none⟩ from by unfold Addr.add; split <;> simp_all, cell_blk (heap_alloc_new w _) j]
  simpa using hu
theorem Bs.one {w : World} {v : Value} {l : Bytes} (h : Bs w v l) : v.oneCell' = true := by
  obtain ⟨p, cap, rfl, _⟩ := h
  rfl

/-- Bytes that a call made: a row of its own, behind all that there was. -/
structure New (B : Nat) (w : World) (v : Value) (l : Bytes) : Prop where
  own : Own w 5 v (l.map u8)
  bs : Bs w v l
  new : ∀ k, v.ownBlock = some k → B ≤ k

theorem own_bytes {w : World} {v : Value} {l : Bytes} (h : Own w 5 v (l.map u8)) (hl : l.length ≤ 140737488355328) : Bs w v l := by
  unfold Own at h
  rw [List.length_map] at h
  exact Bs.of_own h hl
theorem map_u8 (l : Bytes) : (nums l).map (Value.int .u8) = l.map u8 := by simp [nums, u8]
theorem New.of_owns {w : World} {B : Nat} {v : Value} {l : Bytes} (h : w.ownsRow B 5 1 v l.length (l.map u8)) (hl : l.length ≤ 140737488355328) : New B w v l := by
  have h0 : Own w 5 v (l.map u8) := by
    refine ⟨by simp, ?_⟩
    rcases h.2 with hn | ⟨g, cap, cur, hv, hb, rest⟩
    · exact .inl (by simpa using hn)
    · exact .inr ⟨g, cap, cur, by simpa using hv, Nat.zero_le _, by simpa using rest⟩
  exact ⟨h0, own_bytes h0 hl, fun k hk => (h.lt k hk).1⟩
/-- A block that holds a few bytes of the code's own. -/
theorem src_lit (w : World) (l : Bytes) (E : TypeId) : Src (w.alloc (.cells (l.map u8).toArray E)) (.slice (some ⟨w.heap.size, 0, none⟩) l.length l.length) (l.map u8) := by
  refine .inr ⟨⟨w.heap.size, 0, none⟩, l.length, by simp, fun j u hu => ?_⟩
  rw [show (⟨w.heap.size, 0, none⟩ : Addr).add j = ⟨w.heap.size, j, none⟩ from by unfold Addr.add; split <;> simp_all, cell_blk (heap_alloc_new w _) j]
  simpa using hu

theorem Bs.take {w : World} {q : Option Addr} {cap : Nat} {b : Bytes} (h : Bs w (.slice q b.length cap) b) (n : Nat) (hn : n ≤ b.length) : Bs w (.slice q n cap) (b.take n) := by
  obtain ⟨p', cap', hv, h1, h2, h3, h4⟩ := h
  simp only [Value.slice.injEq] at hv
  obtain ⟨rfl, _, rfl⟩ := hv
  have hl : (b.take n).length = n := by simp; omega
  refine ⟨q, cap, by rw [hl], by rw [hl]; omega, by rw [hl]; omega, h3, fun hpos => ?_⟩
  rw [hl] at hpos
  obtain ⟨bb, o, hq, hx⟩ := h4 (by omega)
  refine ⟨bb, o, hq, fun i hi => ?_⟩
  rw [hl] at hi
  rw [hx i (by omega), nums_getD b i (by omega), nums_getD _ i (by rw [hl]; exact hi)]
  simp
end Go.Proofs.YtgpmnicmgehmbaaGreatDoor


namespace Go.Proofs.YtgpmnicmgehmbaaGreatDoor
open Go.RowKit Lamp

theorem Chg.putObj {S : Nat → Prop} {a w : World} (h : Chg S a w) {l : Nat} (hp : S l ∨ a.heap.size ≤ l) (o : Obj) : Chg S a (w.putObj l o) :=
  h.then (T := fun k => k = l) ⟨rfl, rfl, rfl, by simp, fun k _ hk => World.putObj_heap_other hk⟩ (by rintro i rfl; exact hp)

/-- The blocks of K, the deferred calls and the loop's record are as they were. -/
def Kept3 (K : Nat → Prop) (D : Nat) (W W' : World) : Prop := ∀ k, K k ∨ k = D ∨ k = D + 1 → W'.heap[k]? = W.heap[k]?

theorem wpIn_rangeBox {P : Program} {α : Type} {g : Operand} {p : Tmp} {assign body : Code} {Q : Exit → Act → World → Prop} {a : Act} {w : World} {n : Nat}
    {gf : Nat} {lb : Array Value} (hg : a.eval g = .func (.func gf) #[] lb) (eg : ∀ args w, (callFunc gf args).run P w = .ok (.enter gf args) w)
    (enc : α → Value) (box : Nat) (K : Nat → Prop) (hbox : box < w.heap.size) (hK : ∀ k, K k → k < w.heap.size) (xs : List α)
    (hseq : ∀ (l : Nat) (J : List α → World → Prop) (W : World), Chg No w W → (∀ s A B, J s A → Chg (fun k => k = box) A B → J s B) →
      (∀ pre x W, J pre W → pre.length < xs.length → YieldAt Fence.wide (n - 1 - 1) P l #[enc x] W fun e W' => e = .returned (.bool true) ∧ J (pre ++ [x]) W' ∧ ∀ k, K k → W'.heap[k]? = W.heap[k]?) → J [] W →
      CallsIn Fence.wide (n - 1) P gf (#[.func (.yield l) #[] #[]] ++ lb) W fun e W' => (∃ v, e = .returned v) ∧ J xs W')
    (I : List α → World → Prop) (hI : ∀ s A B, I s A → Chg (fun k => k = box ∨ k = w.heap.size ∨ k = w.heap.size + 1) A B → I s B) (h0 : I [] w) (a₁ : α → Act)
    (hassign : ∀ (x : α) (W : World) (K : Act → World → Prop), K (a₁ x) W →
      assign.wpIn (Fence.wide.inRound (w.heap.size + 1)) (n - 1 - 1) P (Exit.then K (fun _ _ _ => False)) { tmps := a.tmps.setIfInBounds p (enc x), defers := [] } W)
    (hbody : ∀ pre x W, I pre W → pre.length < xs.length → w.heap.size + 1 < W.heap.size →
      body.wpIn (Fence.wide.inRound (w.heap.size + 1)) (n - 1 - 1) P (Exit.then (fun _ W' => Kept3 K w.heap.size W W' ∧ I (pre ++ [x]) W') (fun _ _ _ => False)) (a₁ x) W)
    (hdone : ∀ W, I xs W → W.heap[w.heap.size]? = some (.deferred (some [])) → Q .normal { a with defers := { target := .collected w.heap.size, args := #[] } :: a.defers } W) :
    (Code.rangeFunc g #[p] assign body).wpIn Fence.wide n P Q a w := by
  refine wpIn_rangeFunc ?_
  intro fn hfn
  have hro : Fence.wide.round = none := rfl
  rw [hro]
  obtain ⟨rec, hrec⟩ : ∃ rec : LoopState → Option Code → Loop, rec = fun st pe => { state := st, pending := pe, fn, tmps := a.tmps, params := #[p], assign, body, defers := w.heap.size } := ⟨_, rfl⟩
  obtain ⟨W1, hW1⟩ : ∃ W1, (w.alloc (.deferred (some []))).alloc (.loop (rec .ready none)) = W1 := ⟨_, rfl⟩
  have hL1 : W1.heap[w.heap.size + 1]? = some (.loop (rec .ready none)) := by
    rw [← hW1]; have := World.alloc_heap_new (w.alloc (.deferred (some []))) (.loop (rec .ready none)); rwa [World.size_alloc] at this
  have hD1 : W1.heap[w.heap.size]? = some (.deferred (some [])) := by
    rw [← hW1]; exact (Below.heap_alloc _ _ _ (by simp)).trans (World.alloc_heap_new w _)
  have hc1 : Chg No w W1 := by rw [← hW1]; exact ((Chg.refl No w).alloc _).alloc _
  have hI1 : I [] W1 := hI _ _ _ h0 (hc1.mono (fun _ _ h => h.elim))
  refine ⟨w.heap.size + 1, [{ target := .collected w.heap.size, args := #[] }], W1, { target := .fn (.func gf) lb, args := #[.func (.yield (w.heap.size + 1)) #[] #[]] }, W1, gf,
    #[.func (.yield (w.heap.size + 1)) #[] #[]] ++ lb, W1, ?_, ?_, ?_, ?_, fun h => by simp [Fence.wide] at h, ?_⟩
  · rw [← hW1, hrec]; exact run_enterLoop_outer _ _ _ _ _
  · simp only [resolve, hg]
    simp [go_sem]
  · intro f' _; trivial
  · simp [invoke, go_sem, eg]
  · refine (hseq (w.heap.size + 1) (fun pre W => I pre W ∧ W.heap[w.heap.size + 1]? = some (.loop (rec .ready none)) ∧ W.heap[w.heap.size]? = some (.deferred (some []))) W1 hc1 ?_ ?_ ⟨hI1, hL1, hD1⟩).mono ?_
    · rintro s A B ⟨hi, hl, hd⟩ hc
      exact ⟨hI s A B hi (hc.mono (fun _ _ h => .inl h)), hc.heap hl (by omega), hc.heap hd (by omega)⟩
    · rintro pre x W ⟨hi, hl, hd⟩ hlen
      have hlt : w.heap.size + 1 < W.heap.size := (Array.getElem?_eq_some_iff.1 hl).1
      have hy := run_yield (P := P) (args := #[enc x]) hl (by rw [hrec]; rfl)
      rw [hrec] at hy
      refine ⟨fn, _, assign, body, hy, roundIn_of_wpIn hfn ?_⟩
      have hz : ((#[p] : Array Tmp).zip #[enc x]).foldl (fun tmps (t, a) => tmps.setIfInBounds t a) a.tmps = a.tmps.setIfInBounds p (enc x) := by simp
      rw [hz]
      refine hassign x W _ ⟨_, run_beginRound hl (by rw [hrec]), ?_⟩
      obtain ⟨W2, hW2⟩ : ∃ W2, W.putObj (w.heap.size + 1) (.loop { rec .ready none with state := .busy }) = W2 := ⟨_, rfl⟩
      rw [hW2]
      have hl2 : W2.heap[w.heap.size + 1]? = some (.loop { rec .ready none with state := .busy }) := by rw [← hW2]; exact World.putObj_heap_same hlt
      have hd2 : W2.heap[w.heap.size]? = some (.deferred (some [])) := by rw [← hW2]; exact (World.putObj_heap_other (by omega)).trans hd
      have hb2 : ∀ k, K k → W2.heap[k]? = W.heap[k]? := by intro k hk; have := hK k hk; rw [← hW2]; exact World.putObj_heap_other (by omega)
      have hi2 : I pre W2 := hI _ _ _ hi (by rw [← hW2]; exact (Chg.refl _ _).putObj (.inl (.inr (.inr rfl))) _)
      refine wpIn_mono (hbody pre x W2 hi2 hlen (by rw [← hW2]; simpa using hlt)) ?_
      rintro e a3 W3 hp
      cases e with
      | normal =>
        obtain ⟨hk3, hi3⟩ := hp
        have hl3 := (hk3 _ (.inr (.inr rfl))).trans hl2
        have hd3 := (hk3 _ (.inr (.inl rfl))).trans hd2
        have hr := run_endRound (P := P) none hl3
        refine ⟨_, _, hr, rfl, ⟨hI _ _ _ hi3 ((Chg.refl _ _).putObj (.inl (.inr (.inr rfl))) _), ?_, ?_⟩, ?_⟩
        · rw [hrec]; exact World.putObj_heap_same (Array.getElem?_eq_some_iff.1 hl3).1
        · exact (World.putObj_heap_other (by omega)).trans hd3
        · intro k hk
          have := hK k hk
          exact (World.putObj_heap_other (by omega)).trans ((hk3 _ (.inl hk)).trans (hb2 k hk))
      | ret => exact hp.elim
      | exit id => exact hp.elim
      | goto t => exact hp.elim
      | panic ch => exact hp.elim
      | outgrown => exact hp.elim
    · rintro e W2 ⟨⟨v, rfl⟩, hi, hl, hd⟩
      have he := run_endLoop (P := P) hl (by rw [hrec]; simp)
      rw [hrec] at he
      exact ⟨none, _, he, hdone _ (hI _ _ _ hi ((Chg.refl _ _).putObj (.inl (.inr (.inr rfl))) _)) ((World.putObj_heap_other (by omega)).trans hd)⟩

/-- append of something inside a round. -/
theorem wpListIn_app1 {P : Program} {w : World} {F : Fence} {n : Nat} {ops : Array Oper} {rest : List Oper} {o : Oper} {a : Act} {Q : Exit → Act → World → Prop} (hgd : o.guard = none) (s x : Operand) (t : TypeId)
    (ho : o.op = .call { callee := .builtin .append, args := #[s, x], argTypes := #[t, t] })
    (E : TypeId) (z : Value) (bytes : Nat) (ht : P.underlying t = some (.slice E)) (he : Elem P E z bytes) (hzs : z.cells.size = 1)
    (v : Value) (xs : List Value) (hs : a.eval s = v) (hown : Own w E v xs) (vx : Value) (news : List Value) (hx : a.eval x = vx) (hsrc : Src w vx news) (h1 : ∀ u ∈ news, u.oneCell' = true) (hne : news ≠ [])
    (hb : (xs.length + news.length) * bytes ≤ 140737488355328) (hp : xs.length + news.length ≤ maxLen)
    (h : ∀ g cap w', Own w' E (.slice (some ⟨g, 0, none⟩) (xs.length + news.length) cap) (xs ++ news) → Chg (fun k => v.ownBlock = some k) w w' → (v.ownBlock = some g ∨ g = w.heap.size) →
      xs.length + news.length ≤ cap → wpListIn F n P ops Q rest (a.put o.dst (.slice (some ⟨g, 0, none⟩) (xs.length + news.length) cap)) w') : wpListIn F n P ops Q (o :: rest) a w := by
  refine wpListIn_plain hgd fun K hK' => ?_
  obtain ⟨v', w', hr, h2, h3, h4, h5⟩ := run_app (P := P) (w := w) t o.type E z bytes ht he hzs v xs hown vx news hsrc h1 hb hp
  obtain ⟨g, cap, rfl, hcap⟩ := h5 hne
  unfold Oper.wpIn
  refine ⟨?_, ?_⟩
  · simp [Oper.about, ho, resolve, Target.leads, Sem.run_pure]
  · rw [Oper.semAt_plain F _ _ (by rw [ho]; intro c hc'; cases hc')]
    unfold execOp
    simp only [ho, resolve, invoke, builtin, Sem.run_bind, Sem.run_pure, Result.andThen_ok, List.map_toArray, List.map_cons, List.map_nil, hs, hx, hr]
    refine hK' _ _ (h g cap w' h2 h3 ?_ hcap)
    rcases h4 with h4 | h4
    · exact .inl h4.symm
    · exact .inr (by simpa [Value.ownBlock] using h4)
end Go.Proofs.YtgpmnicmgehmbaaGreatDoor


namespace Lamp
open Go

/-- What stands ahead of a sign's first place, what behind, and whether there is one. -/
def cutAt (sep : UInt8) : Bytes → Bytes × Bytes × Bool
  | [] => ([], [], false)
  | c :: l => if c = sep then ([], l, true) else (c :: (cutAt sep l).1, (cutAt sep l).2.1, (cutAt sep l).2.2)

theorem index_one (sep c : UInt8) (l : Bytes) : Lib.index (c :: l) [sep] = if c = sep then 0 else if Lib.index l [sep] = -1 then -1 else Lib.index l [sep] + 1 := by
  simp only [Lib.index, List.isPrefixOf, Bool.and_true]
  by_cases h : c = sep
  · subst h; simp
  · have h' : (sep == c) = false := by simpa using fun e => h e.symm
    simp [h, h']

theorem cut_one (sep : UInt8) : ∀ l : Bytes, Lib.cut l [sep] = cutAt sep l
  | [] => by simp [Lib.cut, Lib.index, cutAt]
  | c :: l => by
    have ih := cut_one sep l
    have hg := Lib.index_ge l [sep]
    unfold Lib.cut at ih ⊢
    rw [index_one]
    by_cases h : c = sep
    · simp [h, cutAt]
    · rw [if_neg h]
      simp only [cutAt, if_neg h]
      rw [← ih]
      by_cases hi : Lib.index l [sep] = -1
      · simp [hi]
      · rw [if_neg hi, if_pos (by omega), if_pos (by omega)]
        have ht : (Lib.index l [sep] + 1).toNat = (Lib.index l [sep]).toNat + 1 := by omega
        rw [ht]
        simp

theorem pieces_cut (sep : UInt8) : ∀ l : Bytes, pieces sep l = if (cutAt sep l).2.2 = true then (cutAt sep l).1 :: pieces sep (cutAt sep l).2.1 else [(cutAt sep l).1]
  | [] => by simp [pieces, cutAt]
  | c :: l => by
    have ih := pieces_cut sep l
    by_cases h : c = sep
    · simp [pieces, cutAt, h]
    · simp only [pieces, cutAt, if_neg h]
      rw [ih]
      by_cases hm : (cutAt sep l).2.2 = true <;> simp [hm]
theorem pieces_ne (sep : UInt8) (l : Bytes) : pieces sep l ≠ [] := by
  rw [pieces_cut]; split <;> simp
theorem cutAt_len (sep : UInt8) : ∀ l : Bytes, (cutAt sep l).1.length + (cutAt sep l).2.1.length ≤ l.length ∧ ((cutAt sep l).2.2 = true → (cutAt sep l).2.1.length < l.length)
  | [] => by simp [cutAt]
  | c :: l => by
    have ih := cutAt_len sep l
    by_cases h : c = sep
    · simp [cutAt, h]
    · simp only [cutAt, if_neg h, List.length_cons]
      exact ⟨by omega, fun hm => by have := ih.2 hm; omega⟩
theorem behind_cut (sep : UInt8) : ∀ l : Bytes, behind sep l = if (cutAt sep l).2.2 = true then some (cutAt sep l).2.1 else none
  | [] => by simp [behind, cutAt]
  | c :: l => by
    have ih := behind_cut sep l
    by_cases h : c = sep
    · simp [behind, cutAt, h]
    · simp only [behind, cutAt, if_neg h]
      rw [ih]
theorem upTo_cut (sep : UInt8) : ∀ l : Bytes, upTo sep l = (cutAt sep l).1
  | [] => by simp [upTo, cutAt]
  | c :: l => by
    have ih := upTo_cut sep l
    by_cases h : c = sep
    · simp [upTo, cutAt, h]
    · simp only [upTo, cutAt, if_neg h, ih]
theorem pieces_len (sep : UInt8) : ∀ l : Bytes, (pieces sep l).length ≤ l.length + 1
  | [] => by simp [pieces]
  | c :: l => by
    have ih := pieces_len sep l
    by_cases h : c = sep
    · simp [pieces, h]; omega
    · simp only [pieces, if_neg h]
      split
      · simp
      · rename_i p ps hp
        rw [hp] at ih
        simp at ih ⊢; omega
theorem pieces_each (sep : UInt8) : ∀ l : Bytes, ∀ x ∈ pieces sep l, x.length ≤ l.length
  | [] => by simp [pieces]
  | c :: l => by
    have ih := pieces_each sep l
    by_cases h : c = sep
    · simp only [pieces, if_pos h]
      intro x hx
      rcases List.mem_cons.1 hx with rfl | hx
      · simp
      · have := ih x hx; simp; omega
    · simp only [pieces, if_neg h]
      split
      · simp
      · rename_i p ps hp
        rw [hp] at ih
        intro x hx
        rcases List.mem_cons.1 hx with rfl | hx
        · have := ih p (by simp); simpa using this
        · have := ih x (by simp [hx]); simp; omega
end Lamp


namespace Go.Proofs.YtgpmnicmgehmbaaGreatDoor
open Go.RowKit Lamp

theorem clone_calls (w : World) (v : Value) (l : Bytes) (h : Bs w v l) :
    Calls Tryz.prog 60 #[v] w fun e w' => ∃ q cap, e = .returned (.slice q l.length cap) ∧ New w.heap.size w' (.slice q l.length cap) l ∧ Below w.heap.size w w' := by
  obtain ⟨p, cap, rfl, h1, h2, h3, h4⟩ := h
  cases p with
  | none =>
    obtain rfl : l = [] := List.eq_nil_of_length_eq_zero (by have := h3 rfl; omega)
    refine (Tryz.bytes_Clone_nil 0 cap w).mono ?_
    rintro e w' ⟨rfl, rfl⟩
    exact ⟨none, 0, rfl, ⟨Own.nil _ _, Bs.nil _, fun k hk => by simp [Value.ownBlock] at hk⟩, Below.refl _ _⟩
  | some ad =>
    refine (Tryz.bytes_Clone_at ad l.length cap (nums l) w (length_nums l) h2 ?_).mono ?_
    · intro i hi
      obtain ⟨b, o, hp, hx⟩ := h4 (by omega)
      cases hp
      rw [show (⟨b, o, none⟩ : Addr).add i = ⟨b, o + i, none⟩ from by unfold Addr.add; split <;> simp_all]
      exact hx i hi
    · rintro e w' ⟨v', rfl, ho, _, hb⟩
      rw [map_u8] at ho
      have hN := New.of_owns ho h2
      obtain ⟨q, cap', hv, _⟩ := hN.bs
      subst hv
      exact ⟨q, cap', rfl, hN, hb⟩
end Go.Proofs.YtgpmnicmgehmbaaGreatDoor
