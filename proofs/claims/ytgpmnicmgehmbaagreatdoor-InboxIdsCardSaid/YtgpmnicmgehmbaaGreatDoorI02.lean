/- Plain laws: a right message of any id, its answer, and what an inbox does with it.
   The law: InboxTakes.
   Plain laws: an inbox that gets right messages and junk between them.
   The law: InboxPieces.
   frame.Unwrap of a frame that is one. -/
import Derived.Test.YtgpmnicmgehmbaaGreatDoorI01
import Derived.Test.YtgpmnicmgehmbaaGreatDoorB12
import Derived.Deep.Cut
import Derived.Deep.CutRange
import Derived.Test.YtgpmnicmgehmbaaGreatDoorB09

namespace Lamp

/-- A text without signs and ends. -/
def bare (s : Bytes) : Prop := ∀ c ∈ s, c ≠ 13 ∧ c ≠ 11 ∧ c ≠ 28 ∧ c ≠ 124
theorem pieces_cons (sep c : UInt8) (l : Bytes) : pieces sep (c :: l) = if c = sep then [] :: pieces sep l else (match pieces sep l with | [] => [[c]] | p :: ps => (c :: p) :: ps) := rfl
theorem pieces_app (sep : UInt8) (b : Bytes) : ∀ a : Bytes, pieces sep (a ++ sep :: b) = pieces sep a ++ pieces sep b
  | [] => by rw [List.nil_append, pieces_cons, if_pos rfl]; rfl
  | c :: a => by
    have ih := pieces_app sep b a
    rw [List.cons_append, pieces_cons, pieces_cons]
    by_cases h : c = sep
    · rw [if_pos h, if_pos h, ih]; rfl
    · rw [if_neg h, if_neg h, ih]
      have hne := pieces_ne sep a
      cases hp : pieces sep a with
      | nil => exact absurd hp hne
      | cons p ps => rfl
theorem pieces_bare (sep : UInt8) : ∀ a : Bytes, sep ∉ a → pieces sep a = [a]
  | [], _ => rfl
  | c :: a, h => by
    simp only [List.mem_cons, not_or] at h
    unfold pieces
    rw [if_neg (fun e => h.1 e.symm), pieces_bare sep a h.2]
theorem endTail_bare : ∀ l : Bytes, (28 : UInt8) ∉ l → endTail l = false
  | [], _ => rfl
  | c :: l, h => by
    simp only [List.mem_cons, not_or] at h
    unfold endTail
    rw [endTail_bare l h.2]
    have : (c == 28) = false := by simpa using fun e => h.1 (by rw [e])
    simp [this]
theorem frameGood_bare {l : Bytes} (h1 : (11 : UInt8) ∉ l) (h2 : (28 : UInt8) ∉ l) : frameGood l = true := by
  unfold frameGood
  rw [endTail_bare l h2]
  have h3 : l.contains 11 = false := by simpa using h1
  have h4 : (l.getLast? == some 28) = false := by
    cases hl : l.getLast? with
    | none => rfl
    | some c =>
      have := List.mem_of_getLast? hl
      have hc : c ≠ 28 := fun e => h2 (e ▸ this)
      simpa using hc
  rw [h3, h4]; rfl

def lineA : Bytes := [94, 126, 92, 38, 124, 124, 124, 124, 124, 124, 124]
def tailB : Bytes := [80, 124, 50, 46, 53]
/-- A first segment, of a type and an id. -/
def line (t s : Bytes) : Bytes := [77, 83, 72, 124] ++ (lineA ++ (t ++ 124 :: (s ++ 124 :: tailB)))
theorem pieces_line (t s : Bytes) (ht : (124 : UInt8) ∉ t) (hs : (124 : UInt8) ∉ s) : pieces 124 (lineA ++ (t ++ 124 :: (s ++ 124 :: tailB))) = [[94, 126, 92, 38], [], [], [], [], [], [], t, s, [80], [50, 46, 53]] := by
  have h1 : lineA ++ (t ++ 124 :: (s ++ 124 :: tailB)) = [94, 126, 92, 38, 124, 124, 124, 124, 124, 124] ++ 124 :: (t ++ 124 :: (s ++ 124 :: tailB)) := rfl
  rw [h1, pieces_app, pieces_app, pieces_app, pieces_bare 124 t ht, pieces_bare 124 s hs]
  rfl
theorem line_split (t s r : Bytes) (ht : (13 : UInt8) ∉ t) (hs : (13 : UInt8) ∉ s) : pieces 13 (line t s ++ 13 :: r) = line t s :: pieces 13 r := by
  rw [pieces_app, pieces_bare 13 (line t s)]
  · rfl
  · unfold line lineA tailB
    simp only [List.mem_append, List.mem_cons, not_or]
    simp [ht, hs]
/-- A head of a type and an id. -/
def headOf2 (t s : Bytes) : Head := ⟨Delims.plain, [[], [], [], [], [], [], t, s, [80], [50, 46, 53]]⟩
theorem line_delims (t s r : Bytes) : delimRead (line t s ++ r) = .ok Delims.plain := by
  show delimRead (77 :: 83 :: 72 :: 124 :: 94 :: 126 :: 92 :: 38 :: 124 :: _) = _
  unfold delimRead
  simp only
  rw [if_pos (by decide), if_pos ⟨by decide, .inl trivial⟩]
  rfl
theorem line_field (t s : Bytes) (ht : (124 : UInt8) ∉ t) (hs : (124 : UInt8) ∉ s) (n : Int) (hn : 2 ≤ n) : field (line t s) n Delims.plain = [[94, 126, 92, 38], [], [], [], [], [], [], t, s, [80], [50, 46, 53]].getD (n - 2).toNat [] := by
  unfold field
  rw [if_neg (by omega)]
  unfold field0
  have h1 : segName (line t s) = msh := rfl
  have h2 : (List.drop 3 (line t s)).head? = some Delims.plain.field := rfl
  rw [if_neg (by simp [h1]), if_pos h2]
  simp only
  rw [if_neg (by omega)]
  unfold nth
  rw [if_pos (by omega)]
  have h3 : List.drop 4 (line t s) = lineA ++ (t ++ 124 :: (s ++ 124 :: tailB)) := rfl
  rw [h3, show Delims.plain.field = 124 from rfl, pieces_line t s ht hs, show (n - 1 - 1).toNat = (n - 2).toNat by congr 1; omega]
theorem read_line (t s r : Bytes) (ht : (124 : UInt8) ∉ t) (hs : (124 : UInt8) ∉ s) (ht2 : (13 : UInt8) ∉ t) (hs2 : (13 : UInt8) ∉ s) : readHead (line t s ++ 13 :: r) = .ok (headOf2 t s) := by
  unfold readHead
  rw [line_delims]
  have hsp : (split (line t s ++ 13 :: r)).headD [] = line t s := by
    unfold split
    rw [line_split t s r ht2 hs2]
    split
    · rename_i h
      cases hp : pieces 13 r with
      | nil => exact absurd hp (pieces_ne _ _)
      | cons p ps => rfl
    · rfl
  simp only [hsp]
  rw [if_neg (by rw [line_field t s ht hs 2 (by decide)]; exact fun h => h rfl)]
  congr 2
  have h := fun (i : Nat) => line_field t s ht hs (3 + (i : Int)) (by omega)
  simp only [h]
  rfl
theorem head_check (t s : Bytes) (ht : t ≠ []) (hs : s ≠ []) (hl : s.length ≤ 50) : check (headOf2 t s) = 0 := by
  unfold check
  rw [if_neg, if_neg, if_neg]
  · show ¬ first [80] Delims.plain ∉ _
    decide
  · show ¬ first [50, 46, 53] Delims.plain ∉ _
    decide
  · simp only [not_or]
    exact ⟨ht, hs, by show ¬ 50 < s.length; omega⟩

def adt : Bytes := [65, 68, 84]
def ackT : Bytes := [65, 67, 75]
theorem rightText_line (s : Bytes) : Go.Proofs.YtgpmnicmgehmbaaGreatDoor.rightText s = line adt s ++ 13 :: [] := by
  simp [Go.Proofs.YtgpmnicmgehmbaaGreatDoor.rightText, line, lineA, tailB, adt]
/-- The answer to a right message. -/
def ackText (s : Bytes) : Bytes := line ackT s ++ 13 :: ([77, 83, 65, 124, 65, 65] ++ 124 :: (s ++ [13]))
theorem bare_not {s : Bytes} (h : bare s) : (13 : UInt8) ∉ s ∧ (11 : UInt8) ∉ s ∧ (28 : UInt8) ∉ s ∧ (124 : UInt8) ∉ s :=
  ⟨fun e => (h _ e).1 rfl, fun e => (h _ e).2.1 rfl, fun e => (h _ e).2.2.1 rfl, fun e => (h _ e).2.2.2 rfl⟩
theorem line_not (c : UInt8) (t s : Bytes) (ht : c ∉ t) (hs : c ∉ s) (hc : c ∉ ([77, 83, 72, 124] : Bytes) ++ lineA ++ 124 :: tailB) : c ∉ line t s := by
  unfold line
  simp only [List.mem_append, List.mem_cons, not_or] at hc ⊢
  exact ⟨hc.1.1, hc.1.2, ht, hc.2.1, hs, hc.2.1, hc.2.2⟩
theorem upTo_bare (sep : UInt8) (r : Bytes) : ∀ a : Bytes, sep ∉ a → upTo sep (a ++ sep :: r) = a
  | [], _ => by simp [upTo]
  | c :: a, h => by
    simp only [List.mem_cons, not_or] at h
    rw [List.cons_append]
    unfold upTo
    rw [if_neg (fun e => h.1 e.symm), upTo_bare sep r a h.2]
theorem right_verdict {s : Bytes} (h : bare s) (h0 : s ≠ []) (hl : s.length ≤ 50) : verdict (Go.Proofs.YtgpmnicmgehmbaaGreatDoor.rightText s) = (headOf2 adt s, aa, 0) := by
  obtain ⟨h13, h11, h28, h124⟩ := bare_not h
  unfold verdict
  rw [rightText_line, read_line adt s [] (by decide) h124 (by decide) h13]
  simp only
  rw [upTo_bare 13 [] _ (line_not 13 adt s (by decide) h13 (by decide))]
  have h1 : (line adt s).contains 28 = false := by
    simpa using line_not 28 adt s (by decide) h28 (by decide)
  rw [h1, head_check adt s (by decide) h0 hl]
  rfl
theorem right_stored {s : Bytes} (h : bare s) (h0 : s ≠ []) (hl : s.length ≤ 50) : stored (Go.Proofs.YtgpmnicmgehmbaaGreatDoor.rightText s) = true := by
  unfold stored
  rw [right_verdict h h0 hl]
  rfl
theorem right_frame {s : Bytes} (h : bare s) : frameGood (Go.Proofs.YtgpmnicmgehmbaaGreatDoor.rightText s) = true ∧ (11 : UInt8) ∉ Go.Proofs.YtgpmnicmgehmbaaGreatDoor.rightText s ∧ (28 : UInt8) ∉ Go.Proofs.YtgpmnicmgehmbaaGreatDoor.rightText s := by
  obtain ⟨h13, h11, h28, h124⟩ := bare_not h
  rw [rightText_line]
  have e1 : (11 : UInt8) ∉ line adt s ++ 13 :: [] := by
    simp only [List.mem_append, List.mem_cons, not_or]
    exact ⟨line_not 11 adt s (by decide) h11 (by decide), by decide, by simp⟩
  have e2 : (28 : UInt8) ∉ line adt s ++ 13 :: [] := by
    simp only [List.mem_append, List.mem_cons, not_or]
    exact ⟨line_not 28 adt s (by decide) h28 (by decide), by decide, by simp⟩
  exact ⟨frameGood_bare e1 e2, e1, e2⟩
theorem ack_frame {s : Bytes} (h : bare s) : frameGood (ackText s) = true := by
  obtain ⟨h13, h11, h28, h124⟩ := bare_not h
  unfold ackText
  refine frameGood_bare ?_ ?_
  · simp only [List.mem_append, List.mem_cons, not_or]
    exact ⟨line_not 11 ackT s (by decide) h11 (by decide), by decide, by decide, by decide, h11, by decide⟩
  · simp only [List.mem_append, List.mem_cons, not_or]
    exact ⟨line_not 28 ackT s (by decide) h28 (by decide), by decide, by decide, by decide, h28, by decide⟩
theorem right_reply {s : Bytes} (h : bare s) (h0 : s ≠ []) (hl : s.length ≤ 50) : reply (Go.Proofs.YtgpmnicmgehmbaaGreatDoor.rightText s) true = some (frameWrap (ackText s)) := by
  obtain ⟨h13, h11, h28, h124⟩ := bare_not h
  have hw : writeHead (ackHead (headOf2 adt s)) = .ok (line ackT s) := by
    have ht : ackHead (headOf2 adt s) = headOf2 ackT s := rfl
    rw [ht]
    unfold writeHead
    rw [if_neg (show ¬ (headOf2 ackT s).d.right = false from (by decide : ¬ Delims.plain.right = false)), if_neg]
    · congr 1
    · show ¬ ([[], [], [], [], [], [], ackT, s, [80], [50, 46, 53]].any (fun s => s.contains 124 || s.contains 13)) = true
      have e1 : s.contains 124 = false := by simpa using h124
      have e2 : s.contains 13 = false := by simpa using h13
      simp only [List.any_cons, List.any_nil, e1, e2]
      decide
  have hb : ackBuild (headOf2 adt s) aa = .ok (ackText s) := by
    unfold ackBuild
    rw [if_neg (by decide), hw]
    simp only
    congr 1
    show join [line ackT s, make Delims.plain [77, 83, 65] [aa, s]] = _
    simp [join, make, sepJoin, msh, ackText, aa, Delims.plain]
  unfold reply
  rw [right_verdict h h0 hl, (right_frame h).1]
  simp only
  rw [if_neg (by decide), if_neg (by decide), hb]
  simp only
  rw [ack_frame h]
  rfl
theorem ack_read {s : Bytes} (h : bare s) : ackRead (ackText s) = (aa, s, 0) := by
  obtain ⟨h13, h11, h28, h124⟩ := bare_not h
  unfold ackRead
  have hr : readHead (ackText s) = .ok (headOf2 ackT s) := read_line ackT s _ (by decide) h124 (by decide) h13
  rw [hr]
  have hsp : split (ackText s) = [line ackT s, [77, 83, 65, 124, 65, 65, 124] ++ s] := by
    have hp : pieces 13 (ackText s) = [line ackT s, [77, 83, 65, 124, 65, 65, 124] ++ s, []] := by
      unfold ackText
      rw [line_split ackT s _ (by decide) h13]
      have : [77, 83, 65, 124, 65, 65] ++ 124 :: (s ++ [13]) = ([77, 83, 65, 124, 65, 65, 124] ++ s) ++ 13 :: ([] : Bytes) := by simp
      rw [this, pieces_app, pieces_bare 13 ([77, 83, 65, 124, 65, 65, 124] ++ s) (by simp [h13])]
      rfl
    unfold split
    rw [hp]
    rfl
  have hf : ∀ n : Int, 1 ≤ n → field ([77, 83, 65, 124, 65, 65, 124] ++ s) n Delims.plain = [aa, s].getD (n - 1).toNat [] := by
    intro n hn
    unfold field
    rw [if_neg (by omega)]
    unfold field0
    rw [if_pos (by show segName _ ≠ msh; simp [segName, msh])]
    have hbh : behind Delims.plain.field ([77, 83, 65, 124, 65, 65, 124] ++ s) = some ([65, 65] ++ 124 :: s) := by
      simp [behind, Delims.plain]
    rw [hbh]
    simp only
    unfold nth
    rw [if_pos hn, show Delims.plain.field = 124 from rfl, pieces_app, pieces_bare 124 s h124]
    rfl
  simp only [hsp]
  have hg : [line ackT s, [77, 83, 65, 124, 65, 65, 124] ++ s].getD 1 [] = [77, 83, 65, 124, 65, 65, 124] ++ s := rfl
  rw [hg, show (headOf2 ackT s).d = Delims.plain from rfl, hf 1 (by decide), hf 2 (by decide)]
  rw [if_neg, if_neg]
  · rfl
  · show ¬ known aa = false; decide
  · simp [segName, msa]
end Lamp


namespace Lamp
/-- What holds of an inbox that is fed from the start. -/
structure Sys.Good (s : Sys) (n : Nat) : Prop where
  fine : s.Fine n
  ok : s.box.d.Ok n
  found : s.box.d.found = []
  calm : s.disk.Calm
theorem Sys.Good.feed {s : Sys} {n : Nat} (h : s.Good n) (b : Bytes) : (s.feed b).1.Good (n + b.length) := by
  obtain ⟨h1, h2, h3⟩ := h.fine.feed h.ok h.found b
  exact ⟨h1, by push_cast; exact h2, h3, (Sys.feed_calm h.calm b).1⟩
theorem Sys.Good.ahead {s : Sys} {n : Nat} (h : s.Good n) (p : List Bytes) : (s.ahead p).Good n := ⟨⟨h.fine.log, h.fine.seen0, h.fine.seen1, h.fine.kept0, h.fine.kept1⟩, h.ok, h.found, h.calm⟩
theorem Sys.Good.mono {s : Sys} {n m : Nat} (h : s.Good n) (hm : n ≤ m) : s.Good m := ⟨h.fine.mono hm, h.ok.mono (by omega), h.found, h.calm⟩
/-- Without the answers that were taken. -/
def Sys.took (s : Sys) : Sys := { s with box := { s.box with out := [] } }
theorem Sys.Good.took {s : Sys} {n : Nat} (h : s.Good n) : s.took.Good n := ⟨⟨h.fine.log, h.fine.seen0, h.fine.seen1, h.fine.kept0, h.fine.kept1⟩, h.ok, h.found, h.calm⟩
theorem Sys.took_ahead (s : Sys) (p : List Bytes) : s.took.ahead (p ++ s.box.out) = s.ahead p := by
  unfold Sys.took Sys.ahead
  simp
end Lamp
namespace Go.Proofs.YtgpmnicmgehmbaaGreatDoor
open Go.RowKit Lamp Go.Conc
set_option maxRecDepth 100000
set_option maxHeartbeats 1000000

theorem fresh_good (room most : Int) (h1 : 0 ≤ room) (h2 : room ≤ 1073741824) (h3 : 1 ≤ most) (h4 : most ≤ 65536) : (fresh room most).Good 0 :=
  ⟨fresh_fine room most h1 h2, fresh_ok most h3 h4, rfl, ⟨rfl, Int.le_refl _⟩⟩
theorem fresh_told (room most : Int) : (fresh room most).Told 0 := rfl

/-- The loop's state: how much was fed, what was taken. -/
def TakesAt (w W : World) (px pl pd py ql qd : Nat) (k : Nat) (v : Value) : Prop :=
  ∃ sx rws Gx Gy, Two w W px pl pd py ql qd sx (sx.ahead (rws.map (·.2))) v rws Gx Gy ∧ sx.Good k ∧ (sx.ahead (rws.map (·.2))).Told 0

section
variable {w W W' : World} {px pl pd py ql qd k : Nat} {v : Value}
theorem TakesAt.fed1 (hg : Glob w) (h6 : 6 ≤ w.heap.size) (c : UInt8) (hk : k < 2000) (h : TakesAt w W px pl pd py ql qd k v) :
    Calls Tryz.prog 10 #[.pointer (some ⟨px, 0, none⟩), .slice (some ⟨W.heap.size, 0, none⟩) 1 1] (W.alloc (.cells #[.int .u8 c.toNat] 5)) fun e w1 => e = .returned (.int .i64 0) ∧
      Calls Tryz.prog 10 #[.pointer (some ⟨py, 0, none⟩), .slice (some ⟨w1.heap.size, 0, none⟩) 1 1] (w1.alloc (.cells #[.int .u8 c.toNat] 5)) fun e w2 => e = .returned (.int .i64 0) ∧ TakesAt w w2 px pl pd py ql qd (k + 1) v := by
  obtain ⟨sx, rws, Gx, Gy, ht, hgood, htold⟩ := h
  refine (ht.feedx1 hg h6 c hgood.fine (by omega) hgood.ok (by omega) hgood.calm).mono ?_
  rintro e w1 ⟨rfl, Gx', ht1⟩
  have hgy := hgood.ahead (rws.map (·.2))
  refine ⟨rfl, (ht1.feedy1 hg h6 c hgy.fine (by omega) hgy.ok (by omega) hgy.calm).mono ?_⟩
  rintro e w2 ⟨rfl, Gy', ht2⟩
  refine ⟨rfl, (sx.feed [c]).1, rws, Gx', Gy', ?_, hgood.feed [c], ?_⟩
  · rw [← show ((sx.ahead (rws.map (·.2))).feed [c]).1 = ((sx.feed [c]).1).ahead (rws.map (·.2)) from by rw [Sys.feed_ahead]]
    exact ht2
  · rw [← show ((sx.ahead (rws.map (·.2))).feed [c]).1 = ((sx.feed [c]).1).ahead (rws.map (·.2)) from by rw [Sys.feed_ahead]]
    exact htold.feed [c]
/-- Take, and what append asks and gives. -/
theorem TakesAt.take (hk : k ≤ 2000) (h : TakesAt w W px pl pd py ql qd k v) :
    Calls Tryz.prog 11 #[.pointer (some ⟨px, 0, none⟩)] W fun e w1 => ∃ q n c xs news, e = .returned (.slice q n c) ∧ Own w1 22 v xs ∧ Src w1 (.slice q n c) news ∧ (∀ u ∈ news, u.oneCell' = true) ∧ xs.length + news.length ≤ 2000 ∧
      ∀ v3 w3, Own w3 22 v3 (xs ++ news) → Chg (fun k => v.ownBlock = some k) w1 w3 → (v3.ownBlock = v.ownBlock ∨ v3.ownBlock = some w1.heap.size) → TakesAt w w3 px pl pd py ql qd k v3 ∧
        ∃ sx rws Gx Gy, sx.box.out = [] ∧ Two w w3 px pl pd py ql qd sx (sx.ahead (rws.map (·.2))) v3 rws Gx Gy ∧ sx.Good k ∧ (sx.ahead (rws.map (·.2))).Told 0 := by
  obtain ⟨sx, rws, Gx, Gy, ht, hgood, htold⟩ := h
  refine (takeBox_calls ht.x (by have := hgood.fine.seen1; omega)).mono ?_
  rintro e w1 ⟨v2, rws2, Gx', rfl, htk⟩
  obtain ⟨q, cap, hv2⟩ := htk.own.sliceOf
  have hlen : (sx.ahead (rws.map (·.2))).box.out.length = rws.length + rws2.length := by
    show (rws.map (·.2) ++ sx.box.out).length = _
    rw [htk.told]; simp
  have hs : ((rws.length + rws2.length : Nat) : Int) ≤ k := by
    have h1 := htold
    unfold Sys.Told at h1
    rw [hlen] at h1
    have h2 := hgood.fine.seen1
    have h3 : (sx.ahead (rws.map (·.2))).box.seen = sx.box.seen := rfl
    omega
  have hsrc := htk.own.src
  rw [hv2] at hsrc
  refine ⟨q, _, cap, rws.map (·.1), rws2.map (·.1), by rw [hv2], ht.own.kept htk.chg (fun b hb hx => (ht.vb b hb).2.1 hx), hsrc, ?_, by simp; omega, ?_⟩
  · intro u hu
    simp only [List.mem_map] at hu
    obtain ⟨r, hr, rfl⟩ := hu
    exact (htk.each r hr).1.one
  · intro v3 w3 ho hc hb
    have ht3 := ht.took htk ho hc hb
    have he : (sx.took).ahead ((rws ++ rws2).map (·.2)) = sx.ahead (rws.map (·.2)) := by
      rw [List.map_append, ← htk.told, Sys.took_ahead]
    rw [← he] at ht3 htold
    exact ⟨⟨sx.took, rws ++ rws2, Gx', Gy, ht3, hgood.took, htold⟩, sx.took, rws ++ rws2, Gx', Gy, rfl, ht3, hgood.took, htold⟩
/-- What is asked at the end. -/
theorem takes_end {sx : Lamp.Sys} {rws : List (Value × Bytes)} {Gx Gy : List Nat} (hout : sx.box.out = []) (hT : Two w W px pl pd py ql qd sx (sx.ahead (rws.map (·.2))) v rws Gx Gy) (hgood : sx.Good k) (hk : k ≤ 2000) (htold : (sx.ahead (rws.map (·.2))).Told 0) :
    Calls Tryz.prog 11 #[.pointer (some ⟨py, 0, none⟩)] W fun e w1 => ∃ q n c, e = .returned (.slice q n c) ∧
      Calls Tryz.prog 12 #[v, .slice q n c] w1 fun e w2 => e = .returned (.bool true) ∧
        (Calls Tryz.prog 13 #[.pointer (some ⟨px, 0, none⟩)] w2 fun e w3 => e = .returned (.int .i64 rws.length) ∧ w2 = w3) ∧
        Calls Tryz.prog 11 #[.pointer (some ⟨px, 0, none⟩)] w2 fun e w4 => ∃ q c, e = .returned (.slice q 0 c) ∧ Chg No w w4 := by
  have hs1 := hgood.fine.seen1
  have hout2 : (sx.ahead (rws.map (·.2))).box.out = rws.map (·.2) := by show rws.map (·.2) ++ sx.box.out = _; rw [hout, List.append_nil]
  have hseen : sx.box.seen = rws.length := by
    have h1 := htold
    unfold Sys.Told at h1
    rw [hout2, List.length_map, Nat.zero_add] at h1
    exact h1
  refine (takeBox_calls hT.y (by show sx.box.seen ≤ _; omega)).mono ?_
  rintro e w1 ⟨v2, rws2, Gy', rfl, htk⟩
  obtain ⟨h1, h2, h3, h4, h5⟩ := hT.tookY htk
  obtain ⟨q, cap, hv2⟩ := htk.own.sliceOf
  have htold2 := htk.told
  rw [hout2] at htold2
  have hxx := hT.gx
  subst hv2
  refine ⟨q, _, cap, rfl, (same_calls h1 h2 (by simp; omega)).mono ?_⟩
  rintro e w2 ⟨rfl, n, rfl⟩
  have h6 := h3.kept ((Chg.refl No w1).drewN n) (fun _ _ x => x)
  refine ⟨by rw [htold2]; simp, ?_, ?_⟩
  · have := seen_calls h6
    rw [hseen] at this
    exact this
  · refine (takeBox_calls h6 (by omega)).mono ?_
    rintro e w4 ⟨v4, rws4, Gx4, rfl, htk4⟩
    obtain ⟨q4, cap4, hv4⟩ := htk4.own.sliceOf
    have h0 := htk4.told
    rw [hout] at h0
    have h00 : rws4 = [] := List.map_eq_nil_iff.1 h0.symm
    subst h00
    refine ⟨q4, cap4, by rw [hv4]; rfl, (h5.drewN n).then htk4.chg (fun i hi => .inr (hxx i hi).1)⟩
end

theorem takes_short (w : World) (p : Option Addr) (n cap : Nat) (ev : Int) (hg : Glob w) (h6 : 6 ≤ w.heap.size) (hl : 2000 < n) :
    Calls Tryz.prog 3 #[.slice p n cap, .int .u8 ev] w fun e w' => e = .returned (.bool true) ∧ Chg No w w' := by
  have hl2 : decide ((2000 : Int) < n) = true := by rw [decide_eq_true_iff]; omega
  have HA := Lib.hid (fun w1 (h : Chg No w w1) => alive_calls w1 (hg.no h) (Nat.le_trans h6 h.size))
  clear hg h6 hl
  go_enter Tryz.func3, Tryz.ntmps3
  go_wp2_with fail
  refine (HA.out w (Chg.refl _ _)).mono ?_
  rintro e w1 ⟨rfl, hc1⟩
  have HA1 := Lib.hid (HA.out w1 hc1)
  have HC1 := Lib.hid hc1
  clear hc1 HA
  go_wp2_with fail
  refine HA1.out.mono ?_
  rintro e w2 ⟨rfl, hc2⟩
  have HC2 := Lib.hid (HC1.out.trans hc2)
  clear hc2 HC1 HA1
  go_wp2_with fail
  go_ret
  exact ⟨rfl, HC2.out⟩

theorem takes_long (w : World) (vb : Value) (b : Bytes) (ev : Int) (hg : Glob w) (h6 : 6 ≤ w.heap.size) (hb : Bs w vb b) (h0 : 0 ≤ ev) (hl : b.length ≤ 2000) :
    Calls Tryz.prog 3 #[vb, .int .u8 ev] w fun e w' => e = .returned (.bool true) ∧ Chg No w w' := by
  have HB := Lib.hid hb
  obtain ⟨p, cap, rfl, _, _, _, hby⟩ := hb
  have hl2 : decide ((2000 : Int) < b.length) = false := by rw [decide_eq_false_iff_not]; omega
  have HAL := Lib.hid (alive_calls w hg h6)
  have HG := Lib.hid hg
  have H6 := Lib.hid h6
  have HBY := Lib.hid hby
  have HL := Lib.hid hl
  clear hg h6 hl hby
  go_enter Tryz.func3, Tryz.ntmps3
  go_wp2_with fail
  refine HAL.out.mono ?_
  rintro e w1 ⟨rfl, hc1⟩
  have HC1 := Lib.hid hc1
  have HN1 := Lib.hid (beginBox_calls w1 3000 600 (by decide) (by decide) (by decide) (by decide))
  clear hc1 HAL
  go_wp2_with fail
  refine HN1.out.mono ?_
  rintro e w2 ⟨pd, pl, px, G, rfl, hin, hc2, hG⟩
  have HI2 := Lib.hid hin
  have HC2 := Lib.hid hc2
  have HG2 := Lib.hid hG
  have HN2 := Lib.hid (beginBox_calls w2 3000 600 (by decide) (by decide) (by decide) (by decide))
  clear hin hc2 hG HN1
  go_wp2_with fail
  refine HN2.out.mono ?_
  rintro e w3 ⟨qd, ql, py, H, rfl, hin, hc3, hH⟩
  have HT : Hid (TakesAt w w3 px pl pd py ql qd 0 (.slice none 0 0)) := ⟨fresh 3000 600, [], G, H, Two.new (HC1.out.trans HC2.out) HI2.out (fun k hk => Nat.le_trans HC1.out.size (HG2.out k hk)) hc3 hin hH, fresh_good _ _ (by decide) (by decide) (by decide) (by decide), fresh_told _ _⟩
  clear hin hc3 hH HN2 HI2 HC2 HG2 HC1
  go_wp2_with fail
  go_loopw [11, 40] (fun v i wr => ∃ k : Nat, k ≤ b.length ∧ i = .int .i64 k ∧ TakesAt w wr px pl pd py ql qd k v) (fun _ i _ => b.length - (intOf i).toNat)
  case atStart => exact ⟨0, Nat.zero_le _, rfl, HT.out⟩
  case round =>
    obtain ⟨k, hk, rfl, hat⟩ := hrel
    clear HT
    by_cases hkl : k < b.length
    · obtain ⟨bb, o, rfl, hcell⟩ := Bs.at HBY.out k hkl
      have hcw : Chg No w wr := by obtain ⟨_, _, _, _, hT, _⟩ := hat; exact hT.chg
      have c0 := hcw.cell hcell (fun x => x)
      have HF := Lib.hid (hat.fed1 HG.out H6.out b[k] (by have := HL.out; omega))
      have HKL := Lib.hid hkl
      have hk9 : (k : Int) ≤ 2000 := by have := HL.out; omega
      clear hat hcell hcw
      generalize b[k] = c at c0 HF
      go_wp2_with fail
      refine HF.out.mono ?_
      rintro e w4 ⟨rfl, hf2⟩
      have HF2 := Lib.hid hf2
      clear hf2 HF c0
      go_wp2_with fail
      refine HF2.out.mono ?_
      rintro e w5 ⟨rfl, hat⟩
      have HAT := Lib.hid hat
      clear hat HF2
      go_wp2_with fail
      · refine (HAT.out.take (by have := HL.out; have := HKL.out; omega)).mono ?_
        rintro e w6 ⟨q, n, cq, xs, news, rfl, ho, hs, h1, hlen, hnext⟩
        have HO := Lib.hid ho
        have HS := Lib.hid hs
        have H1 := Lib.hid h1
        have HLN := Lib.hid hlen
        have HNX := Lib.hid hnext
        clear ho hs h1 hlen hnext HAT
        go_wp2_with (at_builtin; refine wpList_appR0 rfl _ _ rfl u11 xs rfl ?o1 _ news rfl ?o2 ?o3 ?o4 ?_; (case o1 => exact HO.out); (case o2 => exact HS.out); (case o3 => exact H1.out); (case o4 => (have := HLN.out; omega)); intro q9 cap9 w9 hown9 hchg9 hblk9)
        have hat9 := (HNX.out _ _ hown9 hchg9 hblk9).1
        exact ⟨⟨k + 1, HKL.out, by go_num, hat9⟩, by have := HKL.out; simp [intOf]; omega⟩
      · exact ⟨⟨k + 1, HKL.out, by go_num, HAT.out⟩, by have := HKL.out; simp [intOf]; omega⟩
    · obtain rfl : k = b.length := by omega
      have HTK := Lib.hid (hat.take HL.out)
      clear hat
      go_wp2_with fail
      refine HTK.out.mono ?_
      rintro e w6 ⟨q, n, cq, xs, news, rfl, ho, hs, h1, hlen, hnext⟩
      have HO := Lib.hid ho
      have HS := Lib.hid hs
      have H1 := Lib.hid h1
      have HLN := Lib.hid hlen
      have HNX := Lib.hid hnext
      clear ho hs h1 hlen hnext HTK
      go_wp2_with (at_builtin; refine wpList_appR0 rfl _ _ rfl u11 xs rfl ?o1 _ news rfl ?o2 ?o3 ?o4 ?_; (case o1 => exact HO.out); (case o2 => exact HS.out); (case o3 => exact H1.out); (case o4 => (have := HLN.out; omega)); intro q9 cap9 w9 hown9 hchg9 hblk9)
      obtain ⟨_, sx, rws, Gx, Gy, hout, hT, hgood, htold⟩ := HNX.out _ _ hown9 hchg9 hblk9
      obtain ⟨qv, cv, hv⟩ := hT.own.sliceOf
      have hlen : rws.length = xs.length + news.length := by
        injection hv with _ e _
        rw [List.length_map] at e
        exact e.symm
      have HE := Lib.hid (takes_end hout hT hgood HL.out htold)
      rw [hlen] at HE
      have hl9 := HLN.out
      clear HO HS HNX hown9 hchg9 hblk9 hout hT hgood htold hv hlen HLN
      generalize xs.length + news.length = N at *
      refine HE.out.mono ?_
      rintro e w10 ⟨q10, n10, c10, rfl, he2⟩
      have HE2 := Lib.hid he2
      clear he2 HE
      go_wp2_with fail
      refine HE2.out.mono ?_
      rintro e w11 ⟨rfl, hsn, htk⟩
      have HSN := Lib.hid hsn
      have HTK := Lib.hid htk
      clear hsn htk HE2
      go_wp2_with fail
      refine HSN.out.mono ?_
      rintro e w12 ⟨rfl, rfl⟩
      go_wp2_with fail
      refine HTK.out.mono ?_
      rintro e w13 ⟨q13, c13, rfl, hc13⟩
      have HC13 := Lib.hid hc13
      clear hc13
      go_wp2_with fail
      go_ret
      exact ⟨rfl, HC13.out⟩

end Go.Proofs.YtgpmnicmgehmbaaGreatDoor


namespace Lamp
open Go.Proofs.YtgpmnicmgehmbaaGreatDoor (rightText fresh)

/-- A disk on which nothing fails, with room. -/
structure Easy (d : Disk) (u : Nat) : Prop where
  calm : d.Calm
  fail : d.fail = 0
  room : d.room = 100000
  used0 : 0 ≤ d.used
  used1 : d.used ≤ u
theorem sync_easy {d : Disk} {u : Nat} (h : Easy d u) (name : Bytes) (f : File) (hf : fileOf name d.files = some f) : ∃ d', d.sync name = (d', .ok 0) ∧ Easy d' u := by
  have hfl : (d.fail == 1) = false := by rw [h.fail]; rfl
  have hg : ({ d with fail := max 0 (d.fail - 1) } : Disk).begin.gone = false := Disk.Calm.gone (d := { d with fail := max 0 (d.fail - 1) }) ⟨h.calm.arm, h.calm.ops⟩
  refine ⟨(d.sync name).1, ?_, ?_⟩
  · apply Prod.ext
    · rfl
    · unfold Disk.sync Disk.change
      rw [hf]
      simp only [hfl, hg, Bool.false_eq_true, if_false]
  · unfold Disk.sync Disk.change
    rw [hf]
    simp only [hfl, hg, Bool.false_eq_true, if_false, true_or, if_true]
    refine ⟨⟨h.calm.arm, by have := h.calm.ops; show 0 ≤ d.ops + 1; omega⟩, by show max 0 (d.fail - 1) = 0; rw [h.fail]; rfl, h.room, h.used0, h.used1⟩
theorem add_easy {d : Disk} {g : Log} {u : Nat} (h : Easy d u) (hn : named g.name = true) (b : Bytes) (hb : fits b = true) (hl : u + b.length + 8 ≤ 100000) :
    ∃ d', Log.add d g b = (d', { g with l := g.l ++ [b], good := g.good + (entryBytes b).length }, .ok 0) ∧ Easy d' (u + b.length + 8) := by
  have hx := entryBytes_len b
  have hg := h.calm.gone
  have hu0 := h.used0
  have hu1 := h.used1
  have hr := h.room
  have hfit : d.fit (entryBytes b) = (entryBytes b).length := by
    unfold Disk.fit
    simp only [hg, Bool.false_eq_true, if_false]
    omega
  obtain ⟨D1, hD1⟩ : ∃ D1, ({ d.begin with files := layFile g.name ⟨((fileOf g.name d.files).getD ⟨[], 0⟩).b ++ (entryBytes b).take (d.fit (entryBytes b)).toNat, ((fileOf g.name d.files).getD ⟨[], 0⟩).safe⟩ d.files, used := d.used + d.fit (entryBytes b) } : Disk) = D1 := ⟨_, rfl⟩
  have happ : d.append g.name (entryBytes b) = (D1, .ok ((entryBytes b).length, 0)) := by
    rw [Disk.append_eq _ _ _ hn]
    simp only [hg, Bool.false_eq_true, if_false, hD1]
    rw [hfit, if_neg (by omega)]
  have hE1 : Easy D1 (u + b.length + 8) := by
    rw [← hD1]
    exact ⟨⟨h.calm.arm, by have := h.calm.ops; show 0 ≤ d.ops + 1; omega⟩, h.fail, h.room, by show 0 ≤ d.used + d.fit _; rw [hfit]; omega, by show d.used + d.fit _ ≤ _; rw [hfit]; omega⟩
  have hF1 : ∃ f, fileOf g.name D1.files = some f := by rw [← hD1]; exact ⟨_, fileOf_lay _ _⟩
  obtain ⟨f, hf⟩ := hF1
  obtain ⟨D2, hs, hE2⟩ := sync_easy hE1 g.name f hf
  refine ⟨D2, ?_, hE2⟩
  unfold Log.add
  rw [if_neg (by rw [hb]; simp)]
  simp only [happ, hs]
  simp

/-! ### the deframer -/
theorem lay_all : ∀ (m p : Bytes) (d : Def), d.inn = true → d.fin = false → d.now = p → (11 : UInt8) ∉ m → (28 : UInt8) ∉ m → ((p ++ m).length : Int) ≤ d.most → d.feed m = { d with now := p ++ m }
  | [], p, d, _, _, h3, _, _, _ => by subst h3; simp [Def.feed]
  | c :: m, p, d, h1, h2, h3, h4, h5, h6 => by
    simp only [List.mem_cons, not_or] at h4 h5
    have hs : d.step c = { d with now := p ++ [c] } := by
      have hc1 : ¬ c = 11 := fun e => h4.1 e.symm
      have hc2 : ¬ c = 28 := fun e => h5.1 e.symm
      unfold Def.step
      rw [if_pos h1]
      unfold Def.take
      rw [if_neg hc1, if_neg (by simp [h2]), if_neg (by simp [hc2]), if_neg hc2, if_neg (by simp [h2])]
      unfold Def.lay
      rw [if_neg]
      · rw [h3]
      · rw [h3]
        simp only [List.length_append, List.length_cons, List.length_nil] at h6 ⊢
        omega
    show (d.step c).feed m = _
    rw [hs]
    have := lay_all m (p ++ [c]) { d with now := p ++ [c] } h1 h2 rfl h4.2 h5.2 (by simpa using h6)
    rw [this]
    simp
theorem feed_frame (d : Def) (m : Bytes) (h0 : d.inn = false) (h1 : (11 : UInt8) ∉ m) (h2 : (28 : UInt8) ∉ m) (hl : (m.length : Int) ≤ d.most) :
    d.feed (frameWrap m) = { d with inn := false, fin := false, now := [], found := d.found ++ [m] } := by
  have e : frameWrap m = [11] ++ m ++ [28, 13] := rfl
  rw [e, Def.feed_app, Def.feed_app]
  have hb : d.feed [11] = d.begin := by
    show d.step 11 = _
    unfold Def.step
    rw [if_neg (by simp [h0])]
    rfl
  rw [hb, lay_all m [] d.begin rfl rfl rfl h1 h2 (by simpa [Def.begin] using hl)]
  rfl
theorem feed_junk (d : Def) (c : UInt8) (h0 : d.inn = false) (hc : c ≠ 11) : d.feed [c] = { d with junk := d.junk + 1 } := by
  show d.step c = _
  unfold Def.step Def.skip
  rw [if_neg (by simp [h0]), if_neg hc]

/-! ### the inbox -/
structure IdsAt (s : Sys) (l : List Bytes) : Prop where
  inn : s.box.d.inn = false
  found : s.box.d.found = []
  most : s.box.d.most = 200
  easy : Easy s.disk (60 * l.length)
  name : named s.log.name = true
  recs : s.log.l = l.map rightText
  out : s.box.out = l.map fun t => frameWrap (ackText t)
  kept : s.box.kept = l.length
theorem IdsAt.junk {s : Sys} {l : List Bytes} (h : IdsAt s l) (c : UInt8) (hc : c ≠ 11) : IdsAt (s.feed [c]).1 l := by
  rw [Sys.feed_with, feed_junk _ c h.inn hc]
  simp only [h.found]
  exact ⟨h.inn, rfl, h.most, h.easy, h.name, h.recs, h.out, h.kept⟩
theorem rightText_len (t : Bytes) : (rightText t).length = t.length + 26 := by simp [rightText]
theorem IdsAt.right {s : Sys} {l : List Bytes} (h : IdsAt s l) {t : Bytes} (hb : bare t) (h0 : t ≠ []) (hl : t.length ≤ 20) (hn : l.length ≤ 1000) : IdsAt (s.feed (frameWrap (rightText t))).1 (l ++ [t]) := by
  obtain ⟨hf1, hf2, hf3⟩ := right_frame hb
  have hlen := rightText_len t
  rw [Sys.feed_with, feed_frame _ _ h.inn hf2 hf3 (by rw [h.most]; omega)]
  simp only [h.found, List.nil_append]
  have hfit : fits (rightText t) = true := by
    unfold fits
    rw [hlen]
    simp
    omega
  obtain ⟨d', hadd, heasy⟩ := add_easy h.easy h.name (rightText t) hfit (by omega)
  have hone : s.one (rightText t) = ((({ s with disk := d', log := { s.log with l := s.log.l ++ [rightText t], good := s.log.good + (entryBytes (rightText t)).length } } : Sys).answer (rightText t) true), none) := by
    rw [Sys.one_eq, right_stored hb h0 (by omega), if_pos rfl, hadd]
    rfl
  have hm : s.many [rightText t] = ((({ s with disk := d', log := { s.log with l := s.log.l ++ [rightText t], good := s.log.good + (entryBytes (rightText t)).length } } : Sys).answer (rightText t) true), none) := by
    rw [Sys.many_step hone]; rfl
  rw [hm]
  unfold Sys.answer
  rw [right_reply hb h0 (by omega)]
  refine ⟨rfl, rfl, h.most, ?_, h.name, ?_, ?_, ?_⟩
  · refine ⟨heasy.calm, heasy.fail, heasy.room, heasy.used0, Int.le_trans heasy.used1 ?_⟩
    rw [hlen, List.length_append]
    simp
    omega
  · show s.log.l ++ [rightText t] = _
    rw [h.recs]; simp
  · show s.box.out ++ [frameWrap (ackText t)] = _
    rw [h.out]; simp
  · show s.box.kept + 1 = _
    rw [h.kept]; simp
theorem ids_fresh : IdsAt (fresh 100000 200) [] := ⟨rfl, rfl, rfl, ⟨⟨rfl, Int.le_refl _⟩, rfl, rfl, Int.le_refl _, Int.le_refl _⟩, rfl, rfl, rfl, rfl⟩
end Lamp


namespace Go.Proofs.YtgpmnicmgehmbaaGreatDoor
open Go.RowKit Lamp Go.Conc
set_option maxRecDepth 100000
set_option maxHeartbeats 1000000

def roomOf (n : Int) : Int := n % 18446744073709551616 % 3000
def mostOf (n : Int) : Int := 1 + n % 18446744073709551616 % 600
theorem roomOf_in (n : Int) : 0 ≤ roomOf n ∧ roomOf n < 3000 := by unfold roomOf; omega
theorem mostOf_in (n : Int) : 1 ≤ mostOf n ∧ mostOf n ≤ 600 := by unfold mostOf; omega
theorem wrapU (n : Int) : IntKind.u64.wrap n = n % 18446744073709551616 := by
  first | rfl | (simp [IntKind.wrap]; done) | (unfold IntKind.wrap; simp; done)
theorem remU (n m : Int) (h0 : 0 < m) (h1 : m ≤ 1000000) : wrap64 ((IntKind.u64.wrap n).tmod m) = n % 18446744073709551616 % m := by
  rw [wrapU]
  have h2 : 0 ≤ n % 18446744073709551616 := by omega
  rw [Int.tmod_eq_emod_of_nonneg h2]
  have h3 := Int.emod_nonneg (n % 18446744073709551616) (show m ≠ 0 by omega)
  have h4 := Int.emod_lt_of_pos (n % 18446744073709551616) h0
  unfold wrap64
  omega
theorem room_calls (w : World) (n : Int) : Calls Tryz.prog 14 #[.int .i64 n] w fun e w' => e = .returned (.int .i64 (roomOf n)) ∧ w = w' := by
  go_enter Tryz.func14, Tryz.ntmps14
  go_wp2_with fail
  go_ret
  exact ⟨congrArg (fun x => Ending.returned (.int .i64 x)) (remU n 3000 (by decide) (by decide)), rfl⟩
theorem most_calls (w : World) (n : Int) : Calls Tryz.prog 15 #[.int .i64 n] w fun e w' => e = .returned (.int .i64 (mostOf n)) ∧ w = w' := by
  go_enter Tryz.func15, Tryz.ntmps15
  go_wp2_with fail
  go_ret
  refine ⟨congrArg (fun x => Ending.returned (.int .i64 x)) (show wrap64 (1 + wrap64 _) = _ from ?_), rfl⟩
  rw [remU n 600 (by decide) (by decide)]
  unfold mostOf wrap64
  omega

theorem Bs.drop {w : World} {q : Option Addr} {cap n : Nat} {b : Bytes} (h : Bs w (.slice q n cap) b) (k : Nat) (hk : k ≤ b.length) :
    Bs w (.slice (if cap = k then q else q.map (fun x => x.add k)) (n - k) (cap - k)) (b.drop k) ∧ ∀ i, (Value.slice (if cap = k then q else q.map (fun x => x.add k)) (n - k) (cap - k)).ownBlock = some i → (Value.slice q n cap).ownBlock = some i := by
  obtain ⟨p, c2, hv, h1, h2, h3, h4⟩ := h
  injection hv with e1 e2 e3
  subst e1 e2 e3
  have hl : (b.drop k).length = b.length - k := by simp
  have hsub : ∀ i, (Value.slice (if cap = k then q else q.map (fun x => x.add k)) (b.length - k) (cap - k)).ownBlock = some i → (Value.slice q b.length cap).ownBlock = some i := by
    intro i hi
    by_cases e : cap = k
    · rw [if_pos e] at hi
      cases q with
      | none => simp [Value.ownBlock] at hi
      | some a => exact hi
    · rw [if_neg e] at hi
      cases q with
      | none => simp [Value.ownBlock] at hi
      | some a =>
        have : (a.add k).block = a.block := by unfold Addr.add; split <;> rfl
        simp only [Option.map_some, Value.ownBlock, this] at hi ⊢
        exact hi
  refine ⟨⟨_, cap - k, by rw [hl], by rw [hl]; omega, by rw [hl]; omega, fun hn => ?_, ?_⟩, hsub⟩
  · by_cases e : cap = k
    · omega
    · rw [if_neg e] at hn
      cases q with
      | none => have := h3 rfl; omega
      | some a => simp at hn
  · intro hpos
    rw [hl] at hpos
    rw [if_neg (by omega)]
    obtain ⟨bb, o, rfl, hx⟩ := h4 (by omega)
    refine ⟨bb, o + k, ?_, fun i hi => ?_⟩
    · simp only [Option.map_some, addr_add]
    · rw [hl] at hi
      rw [Nat.add_assoc, hx (k + i) (by omega), nums_getD b (k + i) (by omega), nums_getD _ i (by rw [hl]; omega)]
      simp
section
variable {w W W' : World} {px pl pd py ql qd k : Nat} {v : Value} {s : Lamp.Sys} {Gx Gy : List Nat}
theorem pieces_end (hT : Two w W px pl pd py ql qd s s v [] Gx Gy) (hgood : s.Good k) (hk : k ≤ 2000) (htold : s.Told 0) :
    Calls Tryz.prog 11 #[.pointer (some ⟨px, 0, none⟩)] W fun e w1 => ∃ q n c, e = .returned (.slice q n c) ∧
      Calls Tryz.prog 11 #[.pointer (some ⟨py, 0, none⟩)] w1 fun e w2 => ∃ q2 n2 c2, e = .returned (.slice q2 n2 c2) ∧
        Calls Tryz.prog 12 #[.slice q n c, .slice q2 n2 c2] w2 fun e w3 => e = .returned (.bool true) ∧ Chg No w w3 ∧
          (Calls Tryz.prog 16 #[.pointer (some ⟨pl, 0, none⟩)] w3 fun e w' => e = .returned (.int .i64 s.log.l.length) ∧ w3 = w') ∧
          (Calls Tryz.prog 16 #[.pointer (some ⟨ql, 0, none⟩)] w3 fun e w' => e = .returned (.int .i64 s.log.l.length) ∧ w3 = w') ∧
          (Calls Tryz.prog 17 #[.pointer (some ⟨pl, 0, none⟩)] w3 fun e w' => e = .returned (.int .i64 s.log.good) ∧ w3 = w') ∧
          (Calls Tryz.prog 17 #[.pointer (some ⟨ql, 0, none⟩)] w3 fun e w' => e = .returned (.int .i64 s.log.good) ∧ w3 = w') ∧
          (Calls Tryz.prog 18 #[.pointer (some ⟨px, 0, none⟩)] w3 fun e w' => e = .returned (.int .i64 s.box.d.held) ∧ w3 = w') ∧
          (Calls Tryz.prog 18 #[.pointer (some ⟨py, 0, none⟩)] w3 fun e w' => e = .returned (.int .i64 s.box.d.held) ∧ w3 = w') := by
  have hs1 := hgood.fine.seen1
  have hd : (s.box.d.now.length : Int) ≤ 65536 := Int.le_trans hgood.ok.now hgood.ok.m2
  refine (takeBox_calls hT.x (by omega)).mono ?_
  rintro e w1 ⟨v1, rws1, Gx', rfl, h1⟩
  obtain ⟨q1, c1, hv1⟩ := h1.own.sliceOf
  have hyl := hT.y.lt
  have hxl := hT.x.lt
  have hdis : ∀ k ∈ Gy, k ∉ Gx := fun k hk hx => (hT.gx k hx).2 hk
  have hy1 := hT.y.kept h1.chg hdis
  subst hv1
  refine ⟨q1, _, c1, rfl, (takeBox_calls hy1 (by omega)).mono ?_⟩
  rintro e w2 ⟨v2, rws2, Gy', rfl, h2⟩
  obtain ⟨q2, c2, hv2⟩ := h2.own.sliceOf
  subst hv2
  have hx2 := h1.box.kept h2.chg (fun k hk hy => hdis k hy (h1.sub k hk))
  have hr1 : Rs w2 _ (rws1.map (·.2)) := Rs.of_own (h1.own.kept h2.chg (fun b hb hy => by have := h1.new b hb; have := hyl b hy; omega)) (fun r hr => (h1.each r hr).1.chg h2.chg (fun k hk hy => hdis k hy ((h1.each r hr).2 k hk).1))
  have hr2 : Rs w2 _ (rws2.map (·.2)) := Rs.of_own h2.own (fun r hr => (h2.each r hr).1)
  have heq : rws1.map (·.2) = rws2.map (·.2) := h1.told.symm.trans h2.told
  have hl1 : rws1.length ≤ 2000 := by
    have h3 := htold
    unfold Sys.Told at h3
    rw [h1.told, List.length_map, Nat.zero_add] at h3
    omega
  refine ⟨q2, _, c2, rfl, (same_calls hr1 hr2 (by simp; omega)).mono ?_⟩
  rintro e w3 ⟨rfl, n, rfl⟩
  have hc3 : Chg No w (w2.drewN n) := ((hT.chg.then h1.chg (fun i hi => .inr (hT.gx i hi).1)).then h2.chg (fun i hi => .inr (hT.gy i hi))).drewN n
  have hx3 := hx2.kept ((Chg.refl No w2).drewN n) (fun _ _ x => x)
  have hy3 := h2.box.kept ((Chg.refl No w2).drewN n) (fun _ _ x => x)
  obtain ⟨F1, hF1⟩ := hx3.logAt
  obtain ⟨F2, hF2⟩ := hy3.logAt
  exact ⟨by rw [heq]; simp, hc3, logLen_calls hF1, logLen_calls hF2, logGood_calls hF1, logGood_calls hF2, heldBox_calls (s := { s with box := { s.box with out := [] } }) hx3 hd, heldBox_calls (s := { s with box := { s.box with out := [] } }) hy3 hd⟩
end

/-- The loop's state: the second one was fed the first bytes. -/
def PiecesAt (w W : World) (px pl pd py ql qd : Nat) (r m : Int) (b : Bytes) (v : Value) : Prop :=
  ∃ j Gx Gy, j ≤ b.length ∧ Two w W px pl pd py ql qd ((fresh r m).feed b).1 ((fresh r m).feed (b.take j)).1 (.slice none 0 0) [] Gx Gy ∧ Bs w v (b.drop j) ∧ ∀ k, v.ownBlock = some k → k < w.heap.size
section
variable {w W W' : World} {px pl pd py ql qd : Nat} {r m : Int} {b : Bytes}
theorem PiecesAt.fed {q : Option Addr} {n c k : Nat} (hg : Glob w) (h6 : 6 ≤ w.heap.size) (hfr : (fresh r m).Good 0) (hl : b.length ≤ 2000) (h : PiecesAt w W px pl pd py ql qd r m b (.slice q n c)) (hk : k ≤ n) :
    Calls Tryz.prog 10 #[.pointer (some ⟨py, 0, none⟩), .slice q k c] W fun e w' => e = .returned (.int .i64 0) ∧
      PiecesAt w w' px pl pd py ql qd r m b (.slice (if c = k then q else q.map (fun x => x.add k)) (n - k) (c - k)) ∧
      (k = n → ∃ Gx Gy, Two w w' px pl pd py ql qd ((fresh r m).feed b).1 ((fresh r m).feed b).1 (.slice none 0 0) [] Gx Gy) := by
  obtain ⟨j, Gx, Gy, hj, hT, hbw, hlt⟩ := h
  have hb := hbw.chg hT.chg (fun _ _ x => x)
  have hn : n = (b.drop j).length := by
    obtain ⟨p, cap, hv, _⟩ := hb
    injection hv
  subst hn
  have hg1 := hfr.feed (b.take j)
  have htl : (b.take j).length = j := by simp; omega
  have hpl : ((b.drop j).take k).length = k := by simp at hk ⊢; omega
  rw [htl, Nat.zero_add] at hg1
  have hbt := hb.take k hk
  simp only [List.length_drop] at hk
  refine (hT.feedy hg h6 _ _ hbt (fun i hi hx => by have := hT.gy i hx; have := hlt i (by cases q with | none => simp [Value.ownBlock] at hi | some a => exact hi); omega) hg1.fine (by rw [hpl]; omega) hg1.ok (by rw [hpl]; omega) hg1.calm).mono ?_
  rintro e w' ⟨rfl, Gy', hT'⟩
  have hcat : b.take j ++ (b.drop j).take k = b.take (j + k) := by rw [List.take_add]
  rw [← Sys.feed_app hfr.calm, hcat] at hT'
  refine ⟨rfl, ⟨j + k, Gx, Gy', by omega, hT', ?_, ?_⟩, ?_⟩
  · have h1 := (hbw.drop k (by rw [List.length_drop]; exact hk)).1
    rw [List.drop_drop] at h1
    exact h1
  · exact fun i hi => hlt i ((hb.drop k (by rw [List.length_drop]; exact hk)).2 i hi)
  · intro hkn
    subst hkn
    rw [List.length_drop, show j + (b.length - j) = b.length by omega, List.take_length] at hT'
    exact ⟨Gx, Gy', hT'⟩
end

set_option maxHeartbeats 8000000 in
theorem pieces_long (w : World) (n0 n1 : Int) (vb : Value) (b : Bytes) (qc : Option Addr) (nc cc : Nat) (cs : List Int) (hg : Glob w) (h6 : 6 ≤ w.heap.size) (hb : Bs w vb b) (hblt : ∀ k, vb.ownBlock = some k → k < w.heap.size) (hl : b.length ≤ 2000) (hlc : nc ≤ 60) (hcs : cs.length = nc)
    (hcell : ∀ i, i < nc → ∃ g o, qc = some ⟨g, o, none⟩ ∧ w.cell? ⟨g, o + i, none⟩ = some (.int .i64 (cs.getD i 0))) :
    Calls Tryz.prog 4 #[.agg #[.int .i64 n0, .int .i64 n1], vb, .slice qc nc cc] w fun e w' => e = .returned (.bool true) ∧ Chg No w w' := by
  have HB := Lib.hid hb
  obtain ⟨p, cap, rfl, _, _, _, hby⟩ := hb
  have hl2 : decide ((2000 : Int) < b.length) = false := by rw [decide_eq_false_iff_not]; omega
  have hl3 : decide ((60 : Int) < nc) = false := by rw [decide_eq_false_iff_not]; omega
  obtain ⟨W, hW⟩ : ∃ W, w.alloc (.cells #[.int .i64 n0, .int .i64 n1] 36) = W := ⟨_, rfl⟩
  have hcW : Chg No w W := by rw [← hW]; exact (Chg.refl No w).alloc _
  have HAL := Lib.hid (alive_calls W (hg.no hcW) (Nat.le_trans h6 hcW.size))
  have HG := Lib.hid hg
  have H6 := Lib.hid h6
  have HBY := Lib.hid hby
  have HL := Lib.hid hl
  have HCW := Lib.hid hcW
  have HCS := Lib.hid hcs
  have HCELL := Lib.hid hcell
  clear hg h6 hl hby hcW hcs hcell
  have HBLT := Lib.hid hblt
  clear hblt
  go_enter Tryz.func4, Tryz.ntmps4
  go_wp2_with fail
  refine HAL.out.mono ?_
  rintro e w1 ⟨rfl, hc1⟩
  have hb1 := hc1.heap (show W.heap[w.heap.size]? = some (.cells #[.int .i64 n0, .int .i64 n1] 36 (0, 0)) by rw [← hW]; exact heap_alloc_new w _) (fun x => x)
  have c0 := cell_blk hb1 0
  have c1 := cell_blk hb1 1
  simp only [List.getElem?_toArray, List.getElem?_cons_zero, List.getElem?_cons_succ] at c0 c1
  have HB1 := Lib.hid hb1
  have HC1 := Lib.hid hc1
  clear hb1 hc1 HAL hW
  go_upto_region 3 with fail
  go_cut [7, 8, 9] from 30 to 40 (fun s7 s8 s9 wx => ∃ pd pl px G, s7 = .pointer (some ⟨pd, 0, none⟩) ∧ s8 = .pointer (some ⟨pl, 0, none⟩) ∧ s9 = .pointer (some ⟨px, 0, none⟩) ∧ InAt wx px pl pd (fresh (roomOf n0) (mostOf n1)) G ∧ Chg No w1 wx ∧ ∀ k ∈ G, w1.heap.size ≤ k)
  case first =>
    go_region_law ((first
    | (go_simp; go_at_call 14; refine (room_calls _ _).mono ?_; rintro e w9 ⟨rfl, rfl⟩)
    | (go_simp; go_at_call 15; refine (most_calls _ _).mono ?_; rintro e w9 ⟨rfl, rfl⟩)
    | (go_simp; go_at_call 9; refine (beginBox_calls _ (roomOf n0) (mostOf n1) (roomOf_in n0).1 (by have := roomOf_in n0; omega) (mostOf_in n1).1 (by have := mostOf_in n1; omega)).mono ?_; rintro e w2 ⟨pd, pl, px, G, rfl, hin, hc2, hG⟩)))
    all_goals
      have HX : Hid (InAt w2 px pl pd (fresh (roomOf n0) (mostOf n1)) G ∧ Chg No w1 w2 ∧ ∀ k ∈ G, w1.heap.size ≤ k) := ⟨hin, ⟨hc2.os, hc2.tape, hc2.output, hc2.size, hc2.block⟩, hG⟩
      clear hin hc2 hG c0 c1
      go_wp2_with fail
      go_meet
      exact ⟨pd, pl, px, G, rfl, rfl, rfl, HX.out⟩
  case rest =>
  clear c0 c1
  obtain ⟨pd, pl, px, G, rfl, rfl, rfl, hin, hc2, hG⟩ := hcut
  have hb2 := hc2.heap HB1.out (fun x => x)
  have c0 := cell_blk hb2 0
  have c1 := cell_blk hb2 1
  simp only [List.getElem?_toArray, List.getElem?_cons_zero, List.getElem?_cons_succ] at c0 c1
  have HI2 := Lib.hid hin
  have HC2 := Lib.hid hc2
  have HG2 := Lib.hid hG
  clear hin hc2 hG hb2
  go_upto_region 4 with fail
  go_cut [10, 11, 12] from 41 to 51 (fun s10 s11 s12 wx => ∃ qd ql py H, s10 = .pointer (some ⟨qd, 0, none⟩) ∧ s11 = .pointer (some ⟨ql, 0, none⟩) ∧ s12 = .pointer (some ⟨py, 0, none⟩) ∧ InAt wx py ql qd (fresh (roomOf n0) (mostOf n1)) H ∧ Chg No wc wx ∧ ∀ k ∈ H, wc.heap.size ≤ k)
  case first =>
    go_region_law ((first
    | (go_simp; go_at_call 14; refine (room_calls _ _).mono ?_; rintro e w9 ⟨rfl, rfl⟩)
    | (go_simp; go_at_call 15; refine (most_calls _ _).mono ?_; rintro e w9 ⟨rfl, rfl⟩)
    | (go_simp; go_at_call 9; refine (beginBox_calls _ (roomOf n0) (mostOf n1) (roomOf_in n0).1 (by have := roomOf_in n0; omega) (mostOf_in n1).1 (by have := mostOf_in n1; omega)).mono ?_; rintro e w2 ⟨qd, ql, py, H, rfl, hin, hc2, hG⟩)))
    all_goals
      have HX : Hid (InAt w2 py ql qd (fresh (roomOf n0) (mostOf n1)) H ∧ Chg No wc w2 ∧ ∀ k ∈ H, wc.heap.size ≤ k) := ⟨hin, ⟨hc2.os, hc2.tape, hc2.output, hc2.size, hc2.block⟩, hG⟩
      clear hin hc2 hG
      go_wp2_with fail
      go_meet
      exact ⟨qd, ql, py, H, rfl, rfl, rfl, HX.out⟩
  case rest =>
  obtain ⟨qd, ql, py, H, rfl, rfl, rfl, hin, hc3, hH⟩ := hcut
  have hT : Two w wc px pl pd py ql qd (fresh (roomOf n0) (mostOf n1)) (fresh (roomOf n0) (mostOf n1)) (.slice none 0 0) [] G H :=
    Two.new ((HCW.out.trans HC1.out).trans HC2.out) HI2.out (fun k hk => by have := HG2.out k hk; have := HCW.out.size; have := HC1.out.size; omega) hc3 hin hH
  have hgood := fresh_good (roomOf n0) (mostOf n1) (roomOf_in n0).1 (by have := roomOf_in n0; omega) (mostOf_in n1).1 (by have := mostOf_in n1; omega)
  have HF := Lib.hid (hT.feedx (n := 0) (N := 0) HG.out H6.out _ b (HB.out.chg hT.chg (fun _ _ x => x)) (fun k hk hx => by have := (hT.gx k hx).1; have := HBLT.out k hk; omega) hgood.fine (by have := HL.out; omega) hgood.ok (by have := HL.out; omega) hgood.calm)
  clear hT hin hc3 hH HI2 HC2 HG2 HC1 HB1 c0 c1 hgood
  go_wp2_with fail
  refine HF.out.mono ?_
  rintro e w5 ⟨rfl, Gx, hT⟩
  have HFR := Lib.hid (fresh_good (roomOf n0) (mostOf n1) (roomOf_in n0).1 (by have := roomOf_in n0; omega) (mostOf_in n1).1 (by have := mostOf_in n1; omega))
  have HT : Hid (PiecesAt w w5 px pl pd py ql qd (roomOf n0) (mostOf n1) b (.slice p b.length cap)) := ⟨0, Gx, H, Nat.zero_le _, hT, HB.out, HBLT.out⟩
  clear hT HF
  generalize roomOf n0 = rm at *
  generalize mostOf n1 = ms at *
  go_wp2_with fail
  go_loopw [13, 64] (fun v i wr => ∃ k : Nat, k ≤ nc ∧ i = .int .i64 k ∧ Chg No w wr ∧ ∃ q n c, v = .slice q n c ∧ n ≤ b.length ∧ PiecesAt w wr px pl pd py ql qd rm ms b (.slice q n c)) (fun _ i _ => nc - (intOf i).toNat)
  case atStart => exact ⟨0, Nat.zero_le _, rfl, by obtain ⟨_, _, _, _, hT, _⟩ := HT.out; exact hT.chg, p, _, cap, rfl, Nat.le_refl _, HT.out⟩
  case round =>
    obtain ⟨k, hk, rfl, hcw, q, n, c, rfl, hnb, hat⟩ := hrel
    clear HT
    by_cases hkl : k < nc
    · obtain ⟨g, o, rfl, hcell⟩ := HCELL.out k hkl
      have c0 := hcw.cell hcell (fun x => x)
      have HKL := Lib.hid hkl
      have HAT := Lib.hid hat
      have hk9 : (k : Int) ≤ 60 := by omega
      have hn9 : (n : Int) ≤ 2000 := by have := HL.out; omega
      clear hat hcell hcw
      generalize cs.getD k 0 = cut at c0
      obtain ⟨kk, hkk⟩ : ∃ kk : Nat, (kk : Int) = cut % 18446744073709551616 % ((n : Int) + 1) := ⟨(cut % 18446744073709551616 % ((n : Int) + 1)).toNat, Int.toNat_of_nonneg (Int.emod_nonneg _ (by omega))⟩
      have hkn : (kk : Int) ≤ n := by rw [hkk]; have := Int.emod_lt_of_pos (cut % 18446744073709551616) (show (0 : Int) < (n : Int) + 1 by omega); omega
      have hrem : wrap64 ((IntKind.u64.wrap cut).tmod ((n : Int) + 1)) = kk := by rw [hkk]; exact remU cut _ (by omega) (by omega)
      have hkn' : kk ≤ n := by omega
      have hkc : (kk : Int) ≤ c := by
        obtain ⟨_, _, _, _, _, hb', _⟩ := HAT.out
        obtain ⟨_, _, hv, h1, _⟩ := hb'
        injection hv with _ e2 e3
        omega
      have HF := Lib.hid (HAT.out.fed HG.out H6.out HFR.out HL.out hkn')
      clear hkk HAT
      go_wp2_with fail
      refine HF.out.mono ?_
      rintro e w7 ⟨rfl, hat, _⟩
      have HAT := Lib.hid hat
      clear hat HF c0
      go_wp2_with fail
      go_roundw
      case rel => exact ⟨k + 1, HKL.out, by go_num, by obtain ⟨_, _, _, _, hT, _⟩ := HAT.out; exact hT.chg, _, _, _, rfl, by omega, HAT.out⟩
      case measure => have := HKL.out; simp [intOf]; omega
    · obtain rfl : k = nc := by omega
      have hnc : (n : Int) ≤ c := by
        obtain ⟨_, _, _, _, _, hb', _⟩ := hat
        obtain ⟨_, _, hv, h1, _⟩ := hb'
        injection hv with _ e2 e3
        omega
      have HF := Lib.hid (hat.fed HG.out H6.out HFR.out HL.out (Nat.le_refl n))
      clear hat hcw
      go_wp2_with fail
      refine HF.out.mono ?_
      rintro e w7 ⟨rfl, _, hend⟩
      obtain ⟨Gx7, Gy7, hT7⟩ := hend trivial
      have hgood := (HFR.out.feed b).mono (m := 2000) (by have := HL.out; omega)
      have HE := Lib.hid (pieces_end hT7 hgood (Nat.le_refl _) ((fresh_told rm ms).feed b))
      clear hend hT7 hgood HF
      generalize ((fresh rm ms).feed b).1 = S at HE
      go_wp2_with fail
      refine HE.out.mono ?_
      rintro e w8 ⟨q1, n1, c1, rfl, he⟩
      have HE1 := Lib.hid he
      clear he HE
      go_wp2_with fail
      refine HE1.out.mono ?_
      rintro e w9 ⟨q2, n2, c2, rfl, he⟩
      have HE2 := Lib.hid he
      clear he HE1
      go_wp2_with fail
      refine HE2.out.mono ?_
      rintro e w10 ⟨rfl, hc10, h1, h2, h3, h4, h5, h6⟩
      have HC10 := Lib.hid hc10
      have H1 := Lib.hid h1
      have H2 := Lib.hid h2
      have H3 := Lib.hid h3
      have H4 := Lib.hid h4
      have H5 := Lib.hid h5
      have H7 := Lib.hid h6
      clear hc10 h1 h2 h3 h4 h5 h6 HE2
      go_wp2_with fail
      refine H1.out.mono ?_
      rintro e w11 ⟨rfl, rfl⟩
      go_wp2_with fail
      refine H2.out.mono ?_
      rintro e w11 ⟨rfl, rfl⟩
      go_wp2_with fail
      refine H3.out.mono ?_
      rintro e w11 ⟨rfl, rfl⟩
      go_wp2_with fail
      refine H4.out.mono ?_
      rintro e w11 ⟨rfl, rfl⟩
      go_wp2_with fail
      refine H5.out.mono ?_
      rintro e w11 ⟨rfl, rfl⟩
      go_wp2_with fail
      refine H7.out.mono ?_
      rintro e w11 ⟨rfl, rfl⟩
      go_wp2_with fail
      go_ret
      exact ⟨rfl, HC10.out⟩

theorem pieces_short (w : World) (n0 n1 : Int) (p qc : Option Addr) (n cap nc cc : Nat) (hg : Glob w) (h6 : 6 ≤ w.heap.size) (hl : 2000 < n ∨ 60 < nc) :
    Calls Tryz.prog 4 #[.agg #[.int .i64 n0, .int .i64 n1], .slice p n cap, .slice qc nc cc] w fun e w' => e = .returned (.bool true) ∧ Chg No w w' := by
  obtain ⟨W, hW⟩ : ∃ W, w.alloc (.cells #[.int .i64 n0, .int .i64 n1] 36) = W := ⟨_, rfl⟩
  have hcW : Chg No w W := by rw [← hW]; exact (Chg.refl No w).alloc _
  have HA := Lib.hid (fun w1 (h : Chg No w w1) => alive_calls w1 (hg.no h) (Nat.le_trans h6 h.size))
  have HCW := Lib.hid hcW
  clear hg h6 hcW
  by_cases h1 : 2000 < n
  · have hl2 : decide ((2000 : Int) < n) = true := by rw [decide_eq_true_iff]; omega
    clear hl
    go_enter Tryz.func4, Tryz.ntmps4
    go_wp2_with fail
    refine (HA.out W HCW.out).mono ?_
    rintro e w1 ⟨rfl, hc1⟩
    have HC1 := Lib.hid (HCW.out.trans hc1)
    have HA1 := Lib.hid (HA.out w1 HC1.out)
    clear hc1 HA hW
    go_wp2_with fail
    refine HA1.out.mono ?_
    rintro e w2 ⟨rfl, hc2⟩
    have HC2 := Lib.hid (HC1.out.trans hc2)
    clear hc2 HC1 HA1
    go_wp2_with fail
    go_ret
    exact ⟨rfl, HC2.out⟩
  · have hl2 : decide ((2000 : Int) < n) = false := by rw [decide_eq_false_iff_not]; omega
    have hl3 : decide ((60 : Int) < nc) = true := by rw [decide_eq_true_iff]; omega
    clear hl
    go_enter Tryz.func4, Tryz.ntmps4
    go_wp2_with fail
    refine (HA.out W HCW.out).mono ?_
    rintro e w1 ⟨rfl, hc1⟩
    have HC1 := Lib.hid (HCW.out.trans hc1)
    have HA1 := Lib.hid (HA.out w1 HC1.out)
    clear hc1 HA hW
    go_wp2_with fail
    refine HA1.out.mono ?_
    rintro e w2 ⟨rfl, hc2⟩
    have HC2 := Lib.hid (HC1.out.trans hc2)
    clear hc2 HC1 HA1
    go_wp2_with fail
    go_ret
    exact ⟨rfl, HC2.out⟩
end Go.Proofs.YtgpmnicmgehmbaaGreatDoor


namespace Go.Proofs.YtgpmnicmgehmbaaGreatDoor
open Go.RowKit Lamp
set_option maxRecDepth 100000
set_option maxHeartbeats 1000000

theorem wrap_suffix (m : Bytes) : Lib.hasSuffix (frameWrap m) [28, 13] = true := by
  unfold Lib.hasSuffix
  rw [List.isSuffixOf_iff_suffix]
  exact ⟨11 :: m, by simp [frameWrap]⟩
theorem wrap_len (m : Bytes) : (frameWrap m).length = m.length + 3 := by simp [frameWrap]

theorem unwrap_calls (w : World) (v : Value) (m : Bytes) (hb : Bs w v (frameWrap m)) (hl : m.length ≤ 100000) (hg : Glob w) (hgood : frameGood m = true) :
    Calls Tryz.prog 27 #[v] w fun e w' => ∃ q cap, e = .returned (.tuple #[.slice q m.length cap, .int .i64 0]) ∧ Bs w' (.slice q m.length cap) m ∧ (∀ k, (Value.slice q m.length cap).ownBlock = some k → w.heap.size ≤ k) ∧ Chg No w w' := by
  obtain ⟨W, hW⟩ : ∃ W, w.alloc (.cells #[.int .u8 28, .int .u8 13] 106) = W := ⟨_, rfl⟩
  have hcW : Chg No w W := by rw [← hW]; exact (Chg.refl No w).alloc _
  have he2 : Bs W (.slice (some ⟨w.heap.size, 0, none⟩) 2 2) [28, 13] := by rw [← hW]; exact ends_bs w _
  have HB := Lib.hid (hb.chg hcW (fun _ _ x => x))
  obtain ⟨q, cap, rfl, h1, h2, h3, h4⟩ := hb.chg hcW (fun _ _ x => x)
  have hlen := wrap_len m
  obtain ⟨bb, o, rfl, hx⟩ := h4 (by omega)
  have c0 := hx 0 (by omega)
  rw [nums_getD (frameWrap m) 0 (by omega)] at c0
  rw [show (frameWrap m)[0] = (11 : UInt8) from rfl] at c0
  replace c0 : W.cell? ⟨bb, o, none⟩ = some (.int .u8 11) := c0
  obtain ⟨p2, cap2, hv2, _, _, _, h24⟩ := he2
  injection hv2 with e1 e2 e3
  subst e1 e3
  have HC := Lib.hid (cutSuffix_calls (w := W) (l := frameWrap m) (l2 := [28, 13]) (cap2 := 2) h1 h2 h4 h24)
  have hcut : Lib.trimSuffixV (some ⟨bb, o, none⟩) (frameWrap m).length cap (nums (frameWrap m)) (nums [28, 13]) = .slice (some ⟨bb, o, none⟩) (m.length + 1) cap := by
    have hs := wrap_suffix m
    show Lib.bytesTrimSuffix bb o (frameWrap m).length cap (nums (frameWrap m)) (nums [28, 13]) = _
    unfold Lib.bytesTrimSuffix
    rw [bytesOf_nums, bytesOf_nums, hs]
    rw [if_pos rfl, wrap_len, show m.length + 3 - (nums [28, 13]).length = m.length + 1 from by simp [nums]]
    rfl
  rw [hcut, wrap_suffix] at HC
  have hbt : Bs W (.slice (some ⟨bb, o, none⟩) (m.length + 1) cap) (11 :: m) := by
    have := HB.out.take (m.length + 1) (by omega)
    rw [show (frameWrap m).take (m.length + 1) = 11 :: m from by simp [frameWrap]] at this
    exact this
  have hbd := (hbt.drop 1 (by simp)).1
  rw [show (11 :: m).drop 1 = m from rfl, Nat.add_sub_cancel, if_neg (by omega), Option.map_some, addr_add] at hbd
  have HBD := Lib.hid hbd
  have HGD := Lib.hid (good_calls W _ m hbd (by omega) (hg.no hcW))
  rw [hgood] at HGD
  have HCW := Lib.hid hcW
  have hc1 : (1 : Int) ≤ cap := by omega
  have hne1 : ¬ cap = 1 := by omega
  have hl3 : (3 : Int) ≤ (frameWrap m).length := by omega
  have hd3 : decide (((frameWrap m).length : Int) < 3) = false := by rw [decide_eq_false_iff_not]; omega
  have g0 := hg.e0
  have g1 := hg.e1
  clear hb h1 h2 h3 h4 hx hcW hgood hcut hbt hbd h24 hlen e2
  generalize (frameWrap m).length = N at *
  go_enter Tryz.func27, Tryz.ntmps27
  go_wp2_with fail
  refine HC.out.mono ?_
  rintro e w2 ⟨rfl, rfl⟩
  clear HC
  go_wp2_with fail
  refine HGD.out.mono ?_
  rintro e w3 ⟨rfl, hc3⟩
  have HC3 := Lib.hid (HCW.out.trans hc3)
  have HCL := Lib.hid (clone_calls w3 _ m (HBD.out.chg hc3 (fun _ _ x => x)))
  clear hc3 HGD
  go_wp2_with fail
  refine HCL.out.mono ?_
  rintro e w4 ⟨q, c4, rfl, hnew, hbel⟩
  have HN4 := Lib.hid hnew
  have HB4 := Lib.hid hbel
  clear hnew hbel
  go_wp2_with fail
  go_ret2
  exact ⟨q, c4, rfl, HN4.out.bs, fun k hk => Nat.le_trans HC3.out.size (HN4.out.new k hk), HC3.out.trans (Chg.of_below HB4.out)⟩
end Go.Proofs.YtgpmnicmgehmbaaGreatDoor
