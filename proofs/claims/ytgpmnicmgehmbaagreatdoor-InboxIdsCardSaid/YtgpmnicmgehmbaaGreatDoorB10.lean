/- The deframer's calls: Feed, New, Reset, Held.
   Package inbox: an inbox in memory; answer.
   What is small of an inbox stays small; a disk that isn't armed loses nothing.
   An inbox in memory: what it stands in; one message.
   An inbox: one message.
   An inbox: one message, walked. -/
import Derived.Test.YtgpmnicmgehmbaaGreatDoorB02
import Derived.Test.YtgpmnicmgehmbaaGreatDoorB09
import Derived.Test.YtgpmnicmgehmbaaGreatDoorB06
import Derived.Deep.Cut
import Derived.Test.YtgpmnicmgehmbaaGreatDoorB05

namespace Go.Proofs.YtgpmnicmgehmbaaGreatDoor
open Go.RowKit Lamp

section
variable {w : World} {B p : Nat} {d : Def} {vnow vfound : Value} {rows : List (Value × Bytes)}

theorem take_calls (c : UInt8) (hlen : ((rows.map (·.1)).length + 1) * 24 ≤ 140737488355328) (hB : B ≤ w.heap.size) (h : DefAt w B p d vnow vfound rows) (hok : d.Ok 4611686018427387000) :
    Calls Tryz.prog 191 #[.pointer (some ⟨p, 0, none⟩), u8 c] w (Took w B p (d.take c) vnow vfound) := by
  by_cases h1 : c = 11
  · exact take_start h hok h1
  by_cases he : d.fin = true
  · by_cases h3 : c = 13
    · exact take_found hlen hB h hok h3 he
    by_cases h2 : c = 28
    · exact take_end2 h hok h2 he
    · exact take_esc h hok h1 h2 h3 he
  · have he' : d.fin = false := by simpa using he
    by_cases h2 : c = 28
    · exact take_end h h2 he'
    · exact take_plain h hok h1 h2 he'

/-- The method that stands in 'next'. -/
def nextF (d : Def) : FuncId := if d.inn then 191 else 121

theorem take_run (args : Array Value) (w : World) : (callFunc 191 args).run Tryz.prog w = .ok (.enter 191 args) w := by kernel_rfl
theorem skip_run (args : Array Value) (w : World) : (callFunc 121 args).run Tryz.prog w = .ok (.enter 121 args) w := by kernel_rfl
theorem nextF_run (d : Def) (args : Array Value) (w : World) : (callFunc (nextF d) args).run Tryz.prog w = .ok (.enter (nextF d) args) w := by
  cases h : d.inn with
  | true =>
    rw [show nextF d = 191 from by simp [nextF, h]]
    exact take_run args w
  | false =>
    rw [show nextF d = 121 from by simp [nextF, h]]
    exact skip_run args w

theorem next_calls (c : UInt8) (hlen : ((rows.map (·.1)).length + 1) * 24 ≤ 140737488355328) (hB : B ≤ w.heap.size) (h : DefAt w B p d vnow vfound rows) (hok : d.Ok 4611686018427387000) :
    Calls Tryz.prog (nextF d) #[.pointer (some ⟨p, 0, none⟩), u8 c] w (Took w B p (d.step c) vnow vfound) := by
  cases hi : d.inn with
  | true =>
    simp only [nextF, hi, if_true, Def.step]
    exact take_calls c hlen hB h hok
  | false =>
    simp only [nextF, hi, if_false, Bool.false_eq_true, Def.step]
    by_cases hc : c = 11
    · subst hc
      refine (skip_start p d vnow vfound w h.blk).mono ?_
      rintro e w' ⟨rfl, h1, h2⟩
      have hc : Chg (fun k => k = p ∨ vnow.ownBlock = some k) w w' := h2.mono (fun k _ x => by simp at x; exact .inl x)
      refine ⟨rfl, .slice none 0 0, vfound, rows, ?_, hc.mono (fun k _ hk => hk.elim .inl (fun x => .inr (.inl x))), fun k hk => by simp [Value.ownBlock] at hk, fun k hk => .inl hk⟩
      rw [show d.skip 11 = d.begin from by simp [Def.skip]]
      exact h.turn h1 rfl (Own.nil _ _) hc (.inl rfl)
    · refine (skip_other p d vnow vfound c w hc h.blk hok.j0 (by have := hok.j1; omega)).mono ?_
      rintro e w' ⟨rfl, h1, h2⟩
      have hc' : Chg (fun k => k = p ∨ vnow.ownBlock = some k) w w' := h2.mono (fun k _ x => by simp at x; exact .inl x)
      refine ⟨rfl, vnow, vfound, rows, ?_, hc'.mono (fun k _ hk => hk.elim .inl (fun x => .inr (.inl x))), fun k hk => .inl hk, fun k hk => .inl hk⟩
      rw [show d.skip c = { d with junk := d.junk + 1 } from by simp [Def.skip, hc]]
      exact h.turn h1 rfl (h.now.kept h2 (by intro k hk; simp; rintro rfl; exact h.np hk)) hc' (.inr (.inl rfl))
end

/-- A deframer between two calls: nothing lies in 'found'. -/
structure DefRest (w : World) (p : Nat) (d : Def) (vnow : Value) : Prop where
  blk : w.heap[p]? = some (defObj p d vnow (.slice none 0 0))
  now : Own w 5 vnow (d.now.map u8)
  none : d.found = []
  np : vnow.ownBlock ≠ some p

/-- A slice of rows of bytes that a call made; no row's bytes lie in a block of S. -/
def Rows (B : Nat) (S : Nat → Prop) (w : World) (v : Value) (ls : List Bytes) : Prop :=
  ∃ rows : List (Value × Bytes), Own w 22 v (rows.map (·.1)) ∧ ls = rows.map (·.2) ∧ (∀ k, v.ownBlock = some k → B ≤ k ∧ ¬ S k) ∧
    ∀ r ∈ rows, Bs w r.1 r.2 ∧ ∀ k, r.1.ownBlock = some k → B ≤ k ∧ k < w.heap.size ∧ ¬ S k ∧ v.ownBlock ≠ some k

/-- How many frames there may be. -/
theorem found_le (d : Def) (c : UInt8) : (d.step c).found.length ≤ d.found.length + 1 := by
  unfold Def.step Def.take Def.skip Def.lay Def.begin Def.outside
  repeat' split
  all_goals simp
theorem feed_found_le (b : Bytes) : ∀ d : Def, (d.feed b).found.length ≤ d.found.length + b.length := by
  induction b with
  | nil => intro d; simp [Def.feed]
  | cons c l ih =>
    intro d
    have h1 := ih (d.step c)
    have h2 := found_le d c
    simp only [Def.feed, List.foldl_cons] at h1 ⊢
    simp
    omega

set_option maxHeartbeats 400000 in
set_option maxRecDepth 100000 in
theorem feed_calls (w : World) (p : Nat) (d : Def) (vnow vb : Value) (b : Bytes) (N : Int) (h : DefRest w p d vnow) (hbs : Bs w vb b) (hoff : ∀ k, vb.ownBlock = some k → k ≠ p ∧ vnow.ownBlock ≠ some k)
    (hok : d.Ok N) (hN : N + b.length ≤ 4611686018427387000) (hbl : b.length ≤ 1000000) :
    Calls Tryz.prog 49 #[.pointer (some ⟨p, 0, none⟩), vb] w fun e w' => ∃ vl vnow', e = .returned (.tuple #[vl, .int .i64 0]) ∧
      DefRest w' p { d.feed b with found := [] } vnow' ∧ Rows w.heap.size (fun k => k = p ∨ vnow'.ownBlock = some k) w' vl (d.feed b).found ∧
      Chg (fun k => k = p ∨ vnow.ownBlock = some k) w w' ∧ (∀ k, vnow'.ownBlock = some k → vnow.ownBlock = some k ∨ w.heap.size ≤ k) := by
  have hp := lt_of_heap h.blk
  obtain ⟨q, cap, rfl, hb1, hb2, hb3, hb4⟩ := hbs
  have hcell : ∀ k (hk : k < b.length), ∃ bb o, q = some ⟨bb, o, none⟩ ∧ w.cell? ⟨bb, o + k, none⟩ = some (u8 b[k]) := by
    intro k hk
    obtain ⟨bb, o, hq, hx⟩ := hb4 (by omega)
    exact ⟨bb, o, hq, by rw [hx k hk, nums_getD b k hk]; rfl⟩
  go_enter Tryz.func49, Tryz.ntmps49
  go_wp2_with fail
  have h0 : DefAt w w.heap.size p d vnow (.slice none 0 0) [] :=
    ⟨h.blk, h.now, Own.nil _ _, by simp [h.none], fun r hr => by simp at hr, h.np, by simp [Value.ownBlock], fun k _ => by simp [Value.ownBlock]⟩
  have HN := Lib.hid hN
  clear hN
  go_loopw [13] (fun i wr => ∃ k : Nat, k ≤ b.length ∧ i = .int .i64 k ∧ ∃ vn vf rows, DefAt wr w.heap.size p (d.feed (b.take k)) vn vf rows ∧ Chg (fun k => k = p ∨ vnow.ownBlock = some k) w wr ∧
      (∀ k, vn.ownBlock = some k → vnow.ownBlock = some k ∨ w.heap.size ≤ k) ∧ (∀ k, vf.ownBlock = some k → w.heap.size ≤ k))
    (fun i _ => b.length - (intOf i).toNat)
  case atStart => exact ⟨0, Nat.zero_le _, rfl, vnow, .slice none 0 0, [], by simpa [Def.feed] using h0, Chg.refl _ _, fun k hk => .inl hk, fun k hk => by simp [Value.ownBlock] at hk⟩
  case round =>
    obtain ⟨k, hk, rfl, vn, vf, rows, hd, hchg, hvn, hvf⟩ := hrel
    by_cases hkl : k < b.length
    · obtain ⟨bb, o, rfl, hc⟩ := hcell k hkl
      have hcr : wr.cell? ⟨bb, o + k, none⟩ = some (u8 b[k]) := hchg.cell hc (by
        obtain ⟨h1, h2⟩ := hoff bb rfl
        rintro (x | x)
        · exact h1 x
        · exact h2 x)
      have c1 : wr.cell? ⟨p, 1, none⟩ = some (.func (.func (nextF (d.feed (b.take k)))) #[.pointer (some ⟨p, 0, none⟩)] #[]) := cell_blk hd.blk 1
      have hrl : (rows.map (·.1)).length = (d.feed (b.take k)).found.length := by rw [hd.told]; simp
      have hfl := feed_found_le (b.take k) d
      rw [h.none, List.length_take, List.length_nil] at hfl
      have hnx := next_calls (w := wr) (B := w.heap.size) (rows := rows) (vnow := vn) (vfound := vf) (d := d.feed (b.take k)) b[k] (by rw [hrl]; omega) hchg.size hd ((hok.feed (b.take k)).mono (by rw [List.length_take]; have := HN.out; omega))
      have hts : b.take (k + 1) = b.take k ++ [b[k]] := by rw [List.take_succ_eq_append_getElem hkl]
      generalize b[k] = c at hcr hnx hts
      have hcf := nextF_run (d.feed (b.take k))
      generalize nextF (d.feed (b.take k)) = F at c1 hnx hcf
      have HNX := Lib.hid hnx
      have HTS := Lib.hid hts
      clear hcell hnx hc hts
      unfold u8 at hcr
      clear hb3 hb4
      have HD := Lib.hid hd
      have HC := Lib.hid hchg
      have HV := Lib.hid hvn
      have HF := Lib.hid hvf
      have HO := Lib.hid hoff
      clear hd hchg hvn hvf hoff
      go_wp2_with fail
      refine HNX.out.mono ?_
      rintro e w' ⟨rfl, vn', vf', rows', hd', hchg', hvn', hvf'⟩
      go_wp2_with fail
      have hsz := HC.out.size
      have hrel' : ∃ k' : Nat, k' ≤ b.length ∧ Value.int .i64 ((k : Int) + 1) = .int .i64 k' ∧ ∃ vn vf rows, DefAt w' w.heap.size p (d.feed (b.take k')) vn vf rows ∧ Chg (fun k => k = p ∨ vnow.ownBlock = some k) w w' ∧
          (∀ k, vn.ownBlock = some k → vnow.ownBlock = some k ∨ w.heap.size ≤ k) ∧ (∀ k, vf.ownBlock = some k → w.heap.size ≤ k) := by
        refine ⟨k + 1, by omega, by go_num, vn', vf', rows', ?_, HC.out.then hchg' ?_, fun j hj => ?_, fun j hj => ?_⟩
        · rw [HTS.out, Def.feed_snoc]; exact hd'
        · rintro i (x | x | x)
          · exact .inl (.inl x)
          · exact (HV.out i x).imp .inr id
          · exact .inr (HF.out i x)
        · rcases hvn' j hj with x | x
          · exact HV.out j x
          · right; omega
        · rcases hvf' j hj with x | x
          · exact HF.out j x
          · omega
      have HR := Lib.hid hrel'
      clear hrel' hd' hchg' hvn' hvf'
      go_roundw
      case rel => exact HR.out
      case measure => simp [intOf]; omega
    · have hke : k = b.length := by omega
      subst hke
      rw [List.take_length] at hd
      have c5 := cell_blk hd.blk 5
      have f5 := free_blk hd.blk 5
      simp only [List.getElem?_toArray, List.getElem?_cons_succ, List.getElem?_cons_zero] at c5
      have HD := Lib.hid hd
      have HC := Lib.hid hchg
      have HV := Lib.hid hvn
      have HF := Lib.hid hvf
      clear hd hchg hvn hvf hoff hcell hb3 hb4
      go_wp2_with fail
      go_ret2
      have hd := HD.out
      have hchg := HC.out
      have hc5 : Chg (In [p]) wr (wr.setCell ⟨p, 5, none⟩ (.slice none 0 0)) := (Chg.refl _ wr).setCell (by simp) _
      refine ⟨vf, vn, rfl, ⟨?_, hd.now.kept hc5 (by intro k hk; simp; rintro rfl; exact hd.np hk), rfl, hd.np⟩, ⟨rows, hd.found.kept hc5 (by intro k hk; simp; rintro rfl; exact hd.fp hk), hd.told, fun k hk => ⟨HF.out k hk, ?_⟩, fun r hr => ?_⟩, ?_, HV.out⟩
      · rw [set_blk hd.blk 5]
        simp [defObj, nextV]
      · rintro (x | x)
        · subst x; exact hd.fp hk
        · exact hd.nf k x hk
      · obtain ⟨hbs, hk⟩ := hd.each r hr
        refine ⟨hbs.chg hc5 (fun k hk' => by have := (hk k hk').2.1; simpa using this), fun k hk' => ?_⟩
        obtain ⟨h1, h2, h3, h4, h5⟩ := hk k hk'
        refine ⟨h1, Nat.lt_of_lt_of_le h5 hc5.size, ?_, h4⟩
        rintro (x | x)
        · exact h2 x
        · exact h3 x
      · exact hchg.setCell (p := ⟨p, 5, none⟩) (.inl (.inl rfl)) _

theorem newDef_bad (n : Int) (w : World) (h : n < 1 ∨ 65536 < n) :
    Calls Tryz.prog 52 #[.int .i64 n] w fun e w' => e = .returned (.tuple #[.pointer none, .int .i64 3]) ∧ w = w' := by
  by_cases h1 : n < 1
  · go_enter Tryz.func52, Tryz.ntmps52
    go_wp2_with fail
    go_ret2
    exact ⟨rfl, rfl⟩
  · have h2 : 65536 < n := by omega
    go_enter Tryz.func52, Tryz.ntmps52
    go_wp2_with fail
    go_ret2
    exact ⟨rfl, rfl⟩

set_option maxRecDepth 100000 in
theorem newDef_ok (n : Int) (w : World) (h1 : 1 ≤ n) (h2 : n ≤ 65536) :
    Calls Tryz.prog 52 #[.int .i64 n] w fun e w' => e = .returned (.tuple #[.pointer (some ⟨w.heap.size, 0, none⟩), .int .i64 0]) ∧ DefRest w' w.heap.size (Def.new n) (.slice none 0 0) ∧ Below w.heap.size w w' := by
  go_enter Tryz.func52, Tryz.ntmps52
  go_wp2_with fail
  refine (outside_calls w.heap.size (Def.new n) .nilFunc (.slice none 0 0) (.slice none 0 0) _ (by simpa [Def.new] using heap_alloc_new w _)).mono ?_
  rintro e w1 ⟨rfl, hb, hc⟩
  go_wp2_with fail
  go_ret2
  refine ⟨rfl, ⟨?_, Own.nil _ _, rfl, by simp [Value.ownBlock]⟩, (((Chg.refl No w).alloc _).then hc (fun i hi => by simp at hi; exact .inr (by omega))).below⟩
  rw [hb]
  rfl

theorem reset_calls (w : World) (p : Nat) (d : Def) (vnow : Value) (h : DefRest w p d vnow) :
    Calls Tryz.prog 51 #[.pointer (some ⟨p, 0, none⟩)] w fun e w' => e = .returned (.tuple #[]) ∧ DefRest w' p d.outside (.slice none 0 0) ∧ Chg (In [p]) w w' := by
  go_enter Tryz.func51, Tryz.ntmps51
  go_wp2_with fail
  refine (outside_calls p d _ vnow (.slice none 0 0) _ h.blk).mono ?_
  rintro e w' ⟨rfl, hb, hc⟩
  go_wp2_with fail
  go_end0
  exact ⟨rfl, ⟨hb, Own.nil _ _, h.none, by simp [Value.ownBlock]⟩, hc⟩

theorem held_calls (w : World) (p : Nat) (d : Def) (vnow : Value) (h : DefRest w p d vnow) (hm : (d.now.length : Int) ≤ 65536) :
    Calls Tryz.prog 50 #[.pointer (some ⟨p, 0, none⟩)] w fun e w' => e = .returned (.int .i64 d.held) ∧ w = w' := by
  obtain ⟨q, cap, hv⟩ : ∃ q cap, vnow = .slice q d.now.length cap := by
    rcases h.now.2 with ⟨h1, h2⟩ | ⟨g, cap, cur, h1, _⟩
    · exact ⟨none, 0, by rw [h1]; simp at h2; simp [h2]⟩
    · exact ⟨_, cap, by simpa using h1⟩
  subst hv
  have c2 := cell_blk h.blk 2
  have c3 := cell_blk h.blk 3
  have c4 := cell_blk h.blk 4
  simp only [List.getElem?_toArray, List.getElem?_cons_succ, List.getElem?_cons_zero] at c2 c3 c4
  cases hi : d.inn with
  | false =>
    rw [hi] at c2
    have hh : d.held = 0 := by simp [Def.held, hi]
    rw [hh]
    clear hi hh
    go_enter Tryz.func50, Tryz.ntmps50
    go_wp2_with fail
    go_ret
    exact ⟨rfl, rfl⟩
  | true =>
    rw [hi] at c2
    cases hf : d.fin with
    | true =>
      rw [hf] at c3
      have hh : d.held = d.now.length + 2 := by simp [Def.held, hi, hf]
      rw [hh]
      clear hi hf hh
      go_enter Tryz.func50, Tryz.ntmps50
      go_wp2_with fail
      go_ret
      exact ⟨rfl, rfl⟩
    | false =>
      rw [hf] at c3
      have hh : d.held = d.now.length + 1 := by simp [Def.held, hi, hf]
      rw [hh]
      clear hi hf hh
      go_enter Tryz.func50, Tryz.ntmps50
      go_wp2_with fail
      go_ret
      exact ⟨rfl, rfl⟩
end Go.Proofs.YtgpmnicmgehmbaaGreatDoor


namespace Go.Proofs.YtgpmnicmgehmbaaGreatDoor
open Go.RowKit Lamp Go.Conc
set_option maxRecDepth 100000
set_option maxHeartbeats 400000

def boxObj (pdf pl pc : Nat) (seen kept : Int) : Obj := .cells #[.pointer (some ⟨pdf, 0, none⟩), .pointer (some ⟨pl, 0, none⟩), .chan (some pc), .int .i64 seen, .int .i64 kept] 89 (0, 0)
def chanObj (cap : Nat) (vals : List Value) (sn rc : Nat) : Obj := .chan cap vals.toArray false sn rc false

theorem chan_get {P : Program} {w : World} {pc cap sn rc : Nat} {vals : List Value} (h : w.heap[pc]? = some (chanObj cap vals sn rc)) : (getObj pc).run P w = .ok (.chan cap vals.toArray false sn rc false) w := by
  simp [getObj, Sem.run, h, chanObj]
theorem chan_len {w : World} {pc cap sn rc : Nat} {vals : List Value} (h : w.heap[pc]? = some (chanObj cap vals sn rc)) (t : TypeId) :
    (Builtin.len_ #[87] t #[.chan (some pc)]).run Tryz.prog w = .ok (.int .i64 vals.length) w := by
  simp [Builtin.len_, run_underlying Tryz.underlying87, chan_get h, goInt]
theorem chan_cap {w : World} {pc cap sn rc : Nat} {vals : List Value} (h : w.heap[pc]? = some (chanObj cap vals sn rc)) (t : TypeId) :
    (Builtin.cap_ #[87] t #[.chan (some pc)]).run Tryz.prog w = .ok (.int .i64 cap) w := by
  simp [Builtin.cap_, run_underlying Tryz.underlying87, chan_get h, goInt]
theorem Chg.setChan {S : Nat → Prop} {a w : World} (h : Chg S a w) {c : Nat} (hp : S c ∨ a.heap.size ≤ c) (cap : Nat) (buf : Array Value) (cl : Bool) (s r : Nat) (tm : Bool) : Chg S a (w.setChan c cap buf cl s r tm) :=
  h.then (T := fun k => k = c) ⟨rfl, rfl, rfl, by simp [World.setChan], fun k _ hk => by simp only [World.setChan]; rw [Array.getElem?_setIfInBounds_ne (fun e => hk e.symm)]⟩ (by rintro i rfl; exact hp)
theorem setChan_other {w : World} {c k : Nat} {o : Obj} (h : w.heap[k]? = some o) (hn : k ≠ c) (cap : Nat) (buf : Array Value) (cl : Bool) (s r : Nat) (tm : Bool) : (w.setChan c cap buf cl s r tm).heap[k]? = some o := by
  simp only [World.setChan]; rw [Array.getElem?_setIfInBounds_ne (fun e => hn e.symm)]; exact h

/-- What 'answer' does: the answer stands behind those that are there; the buffer may be another one. -/
def Answered (w : World) (px pdf pl pc cap : Nat) (seen kept : Int) (vals : List Value) (v : Value) (w' : World) : Prop :=
  ∃ pc' cap' sn' rc', w'.heap[px]? = some (boxObj pdf pl pc' seen kept) ∧ w'.heap[pc']? = some (chanObj cap' (vals ++ [v]) sn' rc') ∧ vals.length + 1 ≤ cap' ∧ (cap' = cap ∨ (cap' = 2 * cap ∧ vals.length = cap)) ∧
    Chg (In [px, pc]) w w' ∧ (pc' = pc ∨ w.heap.size ≤ pc')

theorem answer_room {w : World} {px pdf pl pc cap sn rc : Nat} {seen kept : Int} {vals : List Value} (v : Value) (hb : w.heap[px]? = some (boxObj pdf pl pc seen kept)) (hc : w.heap[pc]? = some (chanObj cap vals sn rc)) (hr : vals.length < cap) (hne : px ≠ pc) :
    Calls Tryz.prog 48 #[.pointer (some ⟨px, 0, none⟩), v] w fun e w' => e = .returned (.tuple #[]) ∧ Answered w px pdf pl pc cap seen kept vals v w' := by
  have c2 := cell_blk hb 2
  simp only [List.getElem?_toArray, List.getElem?_cons_succ, List.getElem?_cons_zero] at c2
  have hln := fun n => chan_len (w := w.drewN n) (pc := pc) (cap := cap) (sn := sn) (rc := rc) (vals := vals) hc 3
  have hcp := fun n => chan_cap (w := w.drewN n) (pc := pc) (cap := cap) (sn := sn) (rc := rc) (vals := vals) hc 3
  have hr' : decide ((vals.length : Int) = (cap : Int)) = false := by simp; omega
  have hr2 : (((vals.length : Nat) : Int) == (cap : Int)) = false := by simp; omega
  have HB := Lib.hid hb
  have HC := Lib.hid hc
  clear hb hc
  go_enter Tryz.func48, Tryz.ntmps48
  go_wp2_with fail
  go_quiet (fail)
  go_upto_region 7 with (fail)
  refine wp_of_runs ?_
  change RunsTo _ _ _ [0, 1, 2, 3, 4, 5] _ _
  refine RunsTo.value rfl rfl (v := .pointer (some ⟨px, 0, none⟩)) (w' := w.drewN nq) ?_ ?_
  · go_simp
  refine RunsTo.value rfl rfl (v := .pointer (some ⟨px, 0, none⟩)) (w' := w.drewN nq) ?_ ?_
  · go_simp
  refine RunsTo.value rfl rfl (v := .pointer (some ⟨px, 2, none⟩)) (w' := w.drewN nq) ?_ ?_
  · go_simp
  refine RunsTo.value rfl rfl (v := .chan (some pc)) (w' := w.drewN nq) ?_ ?_
  · go_simp
  refine RunsTo.value rfl rfl (v := v) (w' := w.drewN nq) ?_ ?_
  · go_simp
  have hch : (w.drewN nq).heap[pc]? = some (.chan cap vals.toArray false sn rc false) := HC.out
  refine RunsTo.send (v := v) rfl rfl rfl rfl rfl hch (by simpa using hr) ?_
  refine RunsTo.nil ?_
  refine bodyPost_end (results_none rfl _ _ _) rfl ⟨rfl, pc, cap, sn + 1, rc, ?_, ?_, by omega, .inl rfl, ?_, .inl rfl⟩
  · exact setChan_other (w := w.drewN nq) HB.out hne _ _ _ _ _ _
  · have := heap_setChan (w.drewN nq) pc cap (vals.toArray.push v) false (sn + 1) rc false (lt_of_heap HC.out)
    rw [this]
    simp [chanObj]
  · exact ((Chg.refl _ w).drewN nq).setChan (.inl (by simp)) _ _ _ _ _ _

theorem run_makeChan (w : World) (n : Int) (h0 : 0 ≤ n) (h1 : n ≤ 1000000000) : (Instr.makeChan 87 (.int .i64 n)).run Tryz.prog w = .ok (.chan (some w.heap.size)) (w.alloc (.chan n.toNat #[] false 0 0 false)) := by
  obtain ⟨i, hi, hz, hs, hb⟩ := info_parts elem_bytes
  have h2 : ¬ n < 0 := by omega
  have h5 : ¬ (281474976710544 < 24 * n) := by omega
  have h6 : ¬ 9223372036854775807 < n := by omega
  simp [Instr.makeChan, run_underlying Tryz.underlying87, asInt, asIntOf, typeInfo, hi, hb, h2, h5, h6]

/-- What stands in memory while the answers are moved into another buffer. -/
structure MoveAt (w : World) (px pdf pl pc pc2 cap sn rc : Nat) (seen kept : Int) (vals : List Value) (k : Nat) (W : World) : Prop where
  bx : W.heap[px]? = some (boxObj pdf pl pc seen kept)
  old : W.heap[pc]? = some (chanObj cap (vals.drop k) sn (rc + k))
  new : W.heap[pc2]? = some (chanObj (2 * cap) (vals.take k) k 0)
  chg : Chg (In [px, pc]) w W

set_option maxHeartbeats 2000000 in
theorem answer_full {w : World} {px pdf pl pc cap sn rc : Nat} {seen kept : Int} {vals : List Value} (v : Value) (hb : w.heap[px]? = some (boxObj pdf pl pc seen kept)) (hc : w.heap[pc]? = some (chanObj cap vals sn rc)) (hr : vals.length = cap) (h1 : 1 ≤ cap) (hcm : cap ≤ 10000000) (hne : px ≠ pc) :
    Calls Tryz.prog 48 #[.pointer (some ⟨px, 0, none⟩), v] w fun e w' => e = .returned (.tuple #[]) ∧ Answered w px pdf pl pc cap seen kept vals v w' := by
  have c2 := cell_blk hb 2
  simp only [List.getElem?_toArray, List.getElem?_cons_succ, List.getElem?_cons_zero] at c2
  have hln := fun n => chan_len (w := w.drewN n) (pc := pc) (cap := cap) (sn := sn) (rc := rc) (vals := vals) hc 3
  have hcp := fun n => chan_cap (w := w.drewN n) (pc := pc) (cap := cap) (sn := sn) (rc := rc) (vals := vals) hc 3
  rw [hr] at hln
  have hmk := fun n => run_makeChan (w.drewN n) (2 * (cap : Int)) (by omega) (by omega)
  have hcm' : (cap : Int) ≤ 10000000 := by omega
  have hc0 : (0 : Int) ≤ cap := by omega
  have HB := Lib.hid hb
  have HC := Lib.hid hc
  have HR := Lib.hid hr
  clear hb hc hr
  go_enter Tryz.func48, Tryz.ntmps48
  go_wp2_with fail
  go_quiet (fail)
  go_upto_region 2 with (fail)
  obtain ⟨W2, hW2⟩ : ∃ W2, (w.drewN nq).alloc (.chan (2 * cap) #[] false 0 0 false) = W2 := ⟨_, rfl⟩
  have hcw : Chg No w W2 := by rw [← hW2]; exact ((Chg.refl No w).drewN nq).alloc _
  have hnew : W2.heap[w.heap.size]? = some (chanObj (2 * cap) [] 0 0) := by rw [← hW2]; exact heap_alloc_new (w.drewN nq) _
  have hlt : px < w.heap.size ∧ pc < w.heap.size := ⟨lt_of_heap HB.out, lt_of_heap HC.out⟩
  have hat : MoveAt w px pdf pl pc w.heap.size cap sn rc seen kept vals 0 W2 := ⟨hcw.heap HB.out (fun x => x), hcw.heap HC.out (fun x => x), hnew, hcw.mono (fun _ _ h => h.elim)⟩
  have HAT := Lib.hid hat
  rw [hW2]
  clear hW2 hnew hat hln hcp hmk c2
  have c2 := cell_blk HAT.out.bx 2
  simp only [List.getElem?_toArray, List.getElem?_cons_succ, List.getElem?_cons_zero] at c2
  have hln := chan_len (hcw.heap HC.out (fun x => x)) 3
  rw [HR.out] at hln
  clear hcw
  go_wp2_with fail
  go_loopw [28] (fun i wr => ∃ k : Nat, k ≤ cap ∧ i = .int .i64 k ∧ MoveAt w px pdf pl pc w.heap.size cap sn rc seen kept vals k wr) (fun i _ => cap - (intOf i).toNat)
  case atStart => exact ⟨0, Nat.zero_le _, rfl, HAT.out⟩
  case round =>
    obtain ⟨k, hk, rfl, hat⟩ := hrel
    clear c2 hln HAT
    by_cases hlt2 : k < cap
    · have c2 := cell_blk hat.bx 2
      simp only [List.getElem?_toArray, List.getElem?_cons_succ, List.getElem?_cons_zero] at c2
      have HAT := Lib.hid hat
      have hdr : vals.drop k = vals[k]'(by rw [HR.out]; exact hlt2) :: vals.drop (k + 1) := List.drop_eq_getElem_cons _
      have hold : wr.heap[pc]? = some (.chan cap (vals.drop k).toArray false sn (rc + k) false) := hat.old
      have HDR := Lib.hid hdr
      have HTK : Hid (vals.take (k + 1) = vals.take k ++ [vals[k]'(by rw [HR.out]; exact hlt2)]) := Lib.hid (List.take_succ_eq_append_getElem _)
      have HOLD := Lib.hid hold
      generalize vals[k]'(by rw [HR.out]; exact hlt2) = x at HDR HTK
      clear hat hdr hold
      go_upto_region 4 with (fail)
      refine wp_of_runs ?_
      change RunsTo _ _ _ [0, 1, 2, 3, 4, 5, 6] _ _
      refine RunsTo.value rfl rfl (v := .chan (some w.heap.size)) (w' := wr) ?_ ?_
      · go_simp
      refine RunsTo.value rfl rfl (v := .pointer (some ⟨px, 0, none⟩)) (w' := wr) ?_ ?_
      · go_simp
      refine RunsTo.value rfl rfl (v := .pointer (some ⟨px, 0, none⟩)) (w' := wr) ?_ ?_
      · go_simp
      refine RunsTo.value rfl rfl (v := .pointer (some ⟨px, 2, none⟩)) (w' := wr) ?_ ?_
      · go_simp
      refine RunsTo.value rfl rfl (v := .chan (some pc)) (w' := wr) ?_ ?_
      · go_simp
      refine RunsTo.recv (e0 := 22) (c := pc) (z := .slice none 0 0) rfl rfl rfl rfl Tryz.underlying87 (fun w => by kernel_rfl) HOLD.out (by simp [HR.out]; omega) ?_
      rw [show (vals.drop k).toArray.getD 0 undef = x from by rw [HDR.out]; rfl]
      have hnew : (wr.setChan pc cap ((vals.drop k).toArray.extract 1 (vals.drop k).toArray.size) false sn (rc + k + 1) false).heap[w.heap.size]? = some (.chan (2 * cap) (vals.take k).toArray false k 0 false) :=
        setChan_other HAT.out.new (by have := hlt.2; omega) _ _ _ _ _ _
      refine RunsTo.send (v := x) rfl rfl rfl rfl rfl hnew (by simp; omega) ?_
      refine RunsTo.nil ?_
      have hrel' : MoveAt w px pdf pl pc w.heap.size cap sn rc seen kept vals (k + 1) ((wr.setChan pc cap ((vals.drop k).toArray.extract 1 (vals.drop k).toArray.size) false sn (rc + k + 1) false).setChan w.heap.size (2 * cap) ((vals.take k).toArray.push x) false (k + 1) 0 false) := by
        have hl1 := hlt.1
        have hl2 := hlt.2
        refine ⟨?_, ?_, ?_, ?_⟩
        · exact setChan_other (setChan_other HAT.out.bx hne _ _ _ _ _ _) (by omega) _ _ _ _ _ _
        · refine setChan_other (o := chanObj cap (vals.drop (k + 1)) sn (rc + (k + 1))) ?_ (by omega) _ _ _ _ _ _
          rw [heap_setChan _ _ _ _ _ _ _ _ (lt_of_heap HOLD.out)]
          rw [HDR.out]
          simp [chanObj, Nat.add_assoc]
          exact List.take_of_length_le (by simp)
        · rw [heap_setChan _ _ _ _ _ _ _ _ (lt_of_heap hnew)]
          rw [HTK.out]
          simp [chanObj]
        · exact (HAT.out.chg.setChan (.inl (by simp)) _ _ _ _ _ _).setChan (.inr (Nat.le_refl _)) _ _ _ _ _ _
      have HREL := Lib.hid hrel'
      clear hrel' hnew
      generalize ((wr.setChan pc cap ((vals.drop k).toArray.extract 1 (vals.drop k).toArray.size) false sn (rc + k + 1) false).setChan w.heap.size (2 * cap) ((vals.take k).toArray.push x) false (k + 1) 0 false) = W5 at HREL ⊢
      go_wp2_with fail
      go_roundw
      case rel => exact ⟨k + 1, by omega, by go_num, HREL.out⟩
      case measure => simp [intOf]; omega
    · obtain rfl : k = cap := by omega
      have c2 := cell_blk hat.bx 2
      have f2 := free_blk hat.bx 2
      simp only [List.getElem?_toArray, List.getElem?_cons_succ, List.getElem?_cons_zero] at c2
      have HAT := Lib.hid hat
      clear hat hlt2
      go_upto_region 7 with (fail)
      obtain ⟨W6, hW6⟩ : ∃ W6, wr.setCell ⟨px, 2, none⟩ (.chan (some w.heap.size)) = W6 := ⟨_, rfl⟩
      have hb6 : W6.heap[px]? = some (boxObj pdf pl w.heap.size seen kept) := by
        rw [← hW6]
        have := set_blk (w := wr) HAT.out.bx 2 (.chan (some w.heap.size))
        rw [this]
        simp [boxObj]
      have hn6 : W6.heap[w.heap.size]? = some (.chan (2 * k) vals.toArray false k 0 false) := by
        have h := HAT.out.new
        rw [List.take_of_length_le (by have := HR.out; omega)] at h
        rw [← hW6]
        exact set_other h _ _ (by have := hlt.1; omega)
      have hc6 : Chg (In [px, pc]) w W6 := by rw [← hW6]; exact HAT.out.chg.setCell (.inl (by simp)) _
      rw [hW6]
      have c6 := cell_blk hb6 2
      simp only [List.getElem?_toArray, List.getElem?_cons_succ, List.getElem?_cons_zero] at c6
      have HB6 := Lib.hid hb6
      have HN6 := Lib.hid hn6
      have HC6 := Lib.hid hc6
      clear hW6 hb6 hn6 hc6 c2 f2
      refine wp_of_runs ?_
      change RunsTo _ _ _ [0, 1, 2, 3, 4, 5] _ _
      refine RunsTo.value rfl rfl (v := .pointer (some ⟨px, 0, none⟩)) (w' := W6) ?_ ?_
      · go_simp
      refine RunsTo.value rfl rfl (v := .pointer (some ⟨px, 0, none⟩)) (w' := W6) ?_ ?_
      · go_simp
      refine RunsTo.value rfl rfl (v := .pointer (some ⟨px, 2, none⟩)) (w' := W6) ?_ ?_
      · go_simp
      refine RunsTo.value rfl rfl (v := .chan (some w.heap.size)) (w' := W6) ?_ ?_
      · go_simp
      refine RunsTo.value rfl rfl (v := v) (w' := W6) ?_ ?_
      · go_simp
      refine RunsTo.send (v := v) rfl rfl rfl rfl rfl HN6.out (by have := HR.out; simp; omega) ?_
      refine RunsTo.nil ?_
      refine bodyPost_end (results_none rfl _ _ _) rfl ⟨rfl, w.heap.size, 2 * k, k + 1, 0, ?_, ?_, by have := HR.out; omega, .inr ⟨rfl, HR.out⟩, ?_, .inr (Nat.le_refl _)⟩
      · exact setChan_other HB6.out (by have := hlt.1; omega) _ _ _ _ _ _
      · rw [heap_setChan _ _ _ _ _ _ _ _ (lt_of_heap HN6.out)]
        simp [chanObj]
      · exact HC6.out.setChan (.inr (Nat.le_refl _)) _ _ _ _ _ _
end Go.Proofs.YtgpmnicmgehmbaaGreatDoor


namespace Lamp

theorem entryBytes_len (b : Bytes) : (entryBytes b).length = b.length + 8 := by
  simp [entryBytes, four]

/-- What is asked of a log: its disk's counts, its name, its counts. -/
structure LogFine (d : Disk) (g : Log) (n : Nat) : Prop where
  sound : d.Sound (3 * (n : Int))
  name : named g.name = true
  nlen : g.name.length ≤ 100
  good0 : 0 ≤ g.good
  good1 : g.good ≤ 70000 * (n : Int)
  ll : g.l.length ≤ n

theorem LogFine.mono {d : Disk} {g : Log} {n m : Nat} (h : LogFine d g n) (hm : n ≤ m) : LogFine d g m :=
  ⟨h.sound.mono (by omega), h.name, h.nlen, h.good0, by have := h.good1; omega, by have := h.ll; omega⟩
theorem LogFine.add {d : Disk} {g : Log} {n : Nat} (h : LogFine d g n) (b : Bytes) (hb : b.length ≤ 65536) : LogFine (Log.add d g b).1 (Log.add d g b).2.1 (n + 1) := by
  unfold Log.add
  by_cases hf : fits b = false
  · rw [if_pos hf]; exact h.mono (by omega)
  · rw [if_neg hf]
    simp only []
    have ha := (h.sound.append g.name (entryBytes b) h.name).1
    have hgood : ∀ D : Disk, D.Sound (3 * (n : Int) + 3) → LogFine D g (n + 1) := fun D hD => ⟨hD.mono (by omega), h.name, h.nlen, h.good0, by have := h.good1; omega, by have := h.ll; omega⟩
    have hcut : ∀ (D : Disk) (e : Int), D.Sound (3 * (n : Int) + 2) → LogFine (match D.truncate g.name g.good with
        | (d, .ok _) => (d, g, Res.ok e)
        | (d, .lost o) => (d, g, .lost o) : Disk × Log × Res Int).1 (match D.truncate g.name g.good with
        | (d, .ok _) => (d, g, Res.ok e)
        | (d, .lost o) => (d, g, .lost o) : Disk × Log × Res Int).2.1 (n + 1) := by
      intro D e hD
      have ht := hD.truncate g.name g.good
      split
      · rename_i D2 x hx
        rw [hx] at ht
        exact hgood D2 (ht.mono (by omega))
      · rename_i D2 x hx
        rw [hx] at ht
        exact hgood D2 (ht.mono (by omega))
    split
    · rename_i D1 o hap
      rw [hap] at ha
      exact hgood D1 (ha.mono (by omega))
    · rename_i D1 k e hap
      rw [hap] at ha
      split
      · exact hcut D1 e (ha.mono (by omega))
      · have hs := ha.sync g.name
        split
        · rename_i D2 o hsy
          rw [hsy] at hs
          exact hgood D2 (hs.mono (by omega))
        · rename_i D2 e2 hsy
          rw [hsy] at hs
          split
          · exact hcut D2 e2 (hs.mono (by omega))
          · refine ⟨hs.mono (by omega), h.name, h.nlen, ?_, ?_, ?_⟩
            · have := h.good0; show 0 ≤ g.good + _; omega
            · have := h.good1; rw [entryBytes_len]; show g.good + _ ≤ _; omega
            · have := h.ll; show (g.l ++ [b]).length ≤ _; simp; omega

/-- What is asked of an inbox. -/
structure Sys.Fine (s : Sys) (n : Nat) : Prop where
  log : LogFine s.disk s.log n
  seen0 : 0 ≤ s.box.seen
  seen1 : s.box.seen ≤ n
  kept0 : 0 ≤ s.box.kept
  kept1 : s.box.kept ≤ n

def Sys.answer (s : Sys) (m : Bytes) (kept : Bool) : Sys :=
  let s : Sys := if kept then { s with box := { s.box with kept := s.box.kept + 1 } } else s
  match reply m kept with
  | some r => { s with box := { s.box with seen := s.box.seen + 1, out := s.box.out ++ [r] } }
  | none => s
theorem Sys.one_eq (s : Sys) (m : Bytes) : s.one m = if stored m then
    (match Log.add s.disk s.log m with
    | (d, g, .ok e) => (({ s with disk := d, log := g } : Sys).answer m (e == 0), none)
    | (d, g, .lost o) => ({ s with disk := d, log := g }, some o))
    else (s.answer m false, none) := rfl
theorem Sys.answer_log (s : Sys) (m : Bytes) (k : Bool) : (s.answer m k).disk = s.disk ∧ (s.answer m k).log = s.log ∧ (s.answer m k).box.d = s.box.d := by
  unfold Sys.answer
  simp only []
  cases k <;> (split <;> exact ⟨rfl, rfl, rfl⟩)
theorem Sys.answer_seen (s : Sys) (m : Bytes) (k : Bool) : s.box.seen ≤ (s.answer m k).box.seen ∧ (s.answer m k).box.seen ≤ s.box.seen + 1 ∧ s.box.kept ≤ (s.answer m k).box.kept ∧ (s.answer m k).box.kept ≤ s.box.kept + 1 := by
  unfold Sys.answer
  simp only []
  cases k <;> (split <;> simp <;> omega)
theorem Sys.Fine.answer {s : Sys} {n : Nat} (h : s.Fine n) (m : Bytes) (k : Bool) : (s.answer m k).Fine (n + 1) := by
  obtain ⟨h1, h2, h3⟩ := s.answer_log m k
  obtain ⟨h4, h5, h6, h7⟩ := s.answer_seen m k
  refine ⟨by rw [h1, h2]; exact h.log.mono (by omega), ?_, ?_, ?_, ?_⟩
  · have := h.seen0; omega
  · have := h.seen1; omega
  · have := h.kept0; omega
  · have := h.kept1; omega
theorem Sys.Fine.one {s : Sys} {n : Nat} (h : s.Fine n) (m : Bytes) (hm : m.length ≤ 65536) : (s.one m).1.Fine (n + 1) := by
  rw [Sys.one_eq]
  split
  · have ha := h.log.add m hm
    split
    · rename_i d g e he
      rw [he] at ha
      obtain ⟨h1, h2, h3⟩ := Sys.answer_log ({ s with disk := d, log := g } : Sys) m (e == 0)
      obtain ⟨h4, h5, h6, h7⟩ := Sys.answer_seen ({ s with disk := d, log := g } : Sys) m (e == 0)
      replace h4 : s.box.seen ≤ _ := h4
      replace h5 : _ ≤ s.box.seen + 1 := h5
      replace h6 : s.box.kept ≤ _ := h6
      replace h7 : _ ≤ s.box.kept + 1 := h7
      have g1 := h.seen0
      have g2 := h.seen1
      have g3 := h.kept0
      have g4 := h.kept1
      have ha' : LogFine (({ s with disk := d, log := g } : Sys).answer m (e == 0)).disk (({ s with disk := d, log := g } : Sys).answer m (e == 0)).log (n + 1) := by rw [h1, h2]; exact ha
      exact ⟨ha', Int.le_trans g1 h4, by push_cast; exact Int.le_trans h5 (by omega), Int.le_trans g3 h6, by push_cast; exact Int.le_trans h7 (by omega)⟩
    · rename_i d g e he
      rw [he] at ha
      refine ⟨ha, h.seen0, ?_, h.kept0, ?_⟩
      · have := h.seen1; show s.box.seen ≤ _; omega
      · have := h.kept1; show s.box.kept ≤ _; omega
  · exact h.answer m false
end Lamp


namespace Go.Proofs.YtgpmnicmgehmbaaGreatDoor
open Go.RowKit Lamp Go.Conc
set_option maxRecDepth 100000
set_option maxHeartbeats 400000

def inBlocks (px pdf pc : Nat) (vnow : Value) (F : List Nat) : List Nat := px :: pdf :: pc :: vnow.ownBlock.toList ++ F
theorem mem_inBlocks {k px pdf pc : Nat} {vnow : Value} {F : List Nat} : k ∈ inBlocks px pdf pc vnow F ↔ k = px ∨ k = pdf ∨ k = pc ∨ vnow.ownBlock = some k ∨ k ∈ F := by simp [inBlocks]

/-- The box, the channel, the log. -/
structure InIn (w : World) (px pdf pl pd pc cap sn rc : Nat) (s : Lamp.Sys) (F : List Nat) (rows : List (Value × Bytes)) (vnow : Value) : Prop where
  blk : w.heap[px]? = some (boxObj pdf pl pc s.box.seen s.box.kept)
  df : DefRest w pdf s.box.d vnow
  ch : w.heap[pc]? = some (chanObj cap (rows.map (·.1)) sn rc)
  log : LogAt w pl pd s.disk s.log F
  told : s.box.out = rows.map (·.2)
  each : ∀ r ∈ rows, Bs w r.1 r.2 ∧ ∀ k, r.1.ownBlock = some k → k < w.heap.size ∧ k ∉ inBlocks px pdf pc vnow F
  n1 : px ≠ pdf
  n2 : px ≠ pc
  n3 : pdf ≠ pc
  n4 : px ∉ F
  n5 : pdf ∉ F
  n6 : pc ∉ F
  n7 : ∀ k, vnow.ownBlock = some k → k ≠ px ∧ k ≠ pc ∧ k ∉ F
  room : rows.length ≤ cap
  cap1 : 1 ≤ cap
  cap2 : (cap : Int) ≤ 2 * s.box.seen + 1
  few : (rows.length : Int) ≤ s.box.seen

def InAt (w : World) (px pl pd : Nat) (s : Lamp.Sys) (G : List Nat) : Prop :=
  ∃ pdf pc cap sn rc F rows vnow, InIn w px pdf pl pd pc cap sn rc s F rows vnow ∧ G = inBlocks px pdf pc vnow F ++ rowBlocks rows
def InTo (w w' : World) (px pl pd : Nat) (G : List Nat) (s' : Lamp.Sys) : Prop :=
  ∃ G', InAt w' px pl pd s' G' ∧ Chg (In G) w w' ∧ ∀ k ∈ G', k ∈ G ∨ w.heap.size ≤ k

section
variable {w : World} {px pdf pl pd pc cap sn rc : Nat} {s : Lamp.Sys} {F G : List Nat} {rows : List (Value × Bytes)} {vnow : Value}

theorem InIn.lt (h : InIn w px pdf pl pd pc cap sn rc s F rows vnow) : ∀ k ∈ inBlocks px pdf pc vnow F ++ rowBlocks rows, k < w.heap.size := by
  intro k hk
  rcases List.mem_append.1 hk with hk | hk
  · rcases mem_inBlocks.1 hk with rfl | rfl | rfl | hk | hk
    · exact lt_of_heap h.blk
    · exact lt_of_heap h.df.blk
    · exact lt_of_heap h.ch
    · exact h.df.now.lt hk
    · exact h.log.lt k hk
  · obtain ⟨r, hr, hk⟩ := mem_rowBlocks.1 hk
    exact ((h.each r hr).2 k hk).1
theorem InAt.lt (h : InAt w px pl pd s G) : ∀ k ∈ G, k < w.heap.size := by
  obtain ⟨_, _, _, _, _, _, _, _, h, rfl⟩ := h
  exact h.lt
theorem DefRest.kept {S : Nat → Prop} {W : World} {p : Nat} {d : Def} (h : DefRest w p d vnow) (hc : Chg S w W) (hp : ¬ S p) (hv : Off S vnow) : DefRest W p d vnow :=
  ⟨hc.heap h.blk hp, h.now.kept hc hv, h.none, h.np⟩
theorem InIn.kept {S : Nat → Prop} {W : World} (h : InIn w px pdf pl pd pc cap sn rc s F rows vnow) (hc : Chg S w W) (hS : ∀ k ∈ inBlocks px pdf pc vnow F ++ rowBlocks rows, ¬ S k) : InIn W px pdf pl pd pc cap sn rc s F rows vnow := by
  have hl : ∀ k ∈ inBlocks px pdf pc vnow F, ¬ S k := fun k hk => hS k (List.mem_append.2 (.inl hk))
  refine ⟨hc.heap h.blk (hl _ (mem_inBlocks.2 (.inl rfl))), h.df.kept hc (hl _ (mem_inBlocks.2 (.inr (.inl rfl)))) (fun k hk => hl k (mem_inBlocks.2 (.inr (.inr (.inr (.inl hk)))))),
    hc.heap h.ch (hl _ (mem_inBlocks.2 (.inr (.inr (.inl rfl))))), h.log.kept hc (fun k hk => hl k (mem_inBlocks.2 (.inr (.inr (.inr (.inr hk)))))), h.told, fun r hr => ?_, h.n1, h.n2, h.n3, h.n4, h.n5, h.n6, h.n7, h.room, h.cap1, h.cap2, h.few⟩
  refine ⟨(h.each r hr).1.chg hc (fun k hk => hS k (List.mem_append.2 (.inr (mem_rowBlocks.2 ⟨r, hr, hk⟩)))), fun k hk => ?_⟩
  obtain ⟨h1, h2⟩ := (h.each r hr).2 k hk
  exact ⟨Nat.lt_of_lt_of_le h1 hc.size, h2⟩
theorem InAt.kept {S : Nat → Prop} {W : World} (h : InAt w px pl pd s G) (hc : Chg S w W) (hS : ∀ k ∈ G, ¬ S k) : InAt W px pl pd s G := by
  obtain ⟨pdf, pc, cap, sn, rc, F, rows, vnow, h, rfl⟩ := h
  exact ⟨pdf, pc, cap, sn, rc, F, rows, vnow, h.kept hc hS, rfl⟩
theorem InTo.same (h : InAt w px pl pd s G) : InTo w w px pl pd G s := ⟨G, h, Chg.refl _ _, fun _ x => .inl x⟩
theorem InTo.then {w' w'' : World} {s' s'' : Lamp.Sys} (h : InTo w w' px pl pd G s') (h2 : ∀ G', InAt w' px pl pd s' G' → InTo w' w'' px pl pd G' s'') : InTo w w'' px pl pd G s'' := by
  obtain ⟨G', h3, h4, h5⟩ := h
  obtain ⟨G2, h6, h7, h8⟩ := h2 G' h3
  refine ⟨G2, h6, h4.then h7 h5, fun k hk => ?_⟩
  rcases h8 k hk with e | e
  · exact h5 k e
  · exact .inr (Nat.le_trans h4.size e)
theorem InTo.after {w0 : World} {s' : Lamp.Sys} {w' : World} (hc : Chg No w0 w) (h : InTo w w' px pl pd G s') : InTo w0 w' px pl pd G s' := by
  obtain ⟨G', h1, h2, h3⟩ := h
  exact ⟨G', h1, (hc.mono (fun _ _ x => x.elim)).trans h2, fun k hk => (h3 k hk).imp id (fun x => Nat.le_trans hc.size x)⟩

/-- The log beneath is turned. -/
theorem InIn.beneath {W : World} {D : Disk} {g : Log} (h : InIn w px pdf pl pd pc cap sn rc s F rows vnow) (ht : LogTo w W pl pd F D g) :
    ∃ F', InIn W px pdf pl pd pc cap sn rc { s with disk := D, log := g } F' rows vnow ∧ Chg (In F) w W ∧ ∀ k ∈ F', k ∈ F ∨ w.heap.size ≤ k := by
  obtain ⟨F', h1, h2, h3⟩ := ht
  have hlt := h.lt
  have old : ∀ k, k ∈ inBlocks px pdf pc vnow F ++ rowBlocks rows → k ∉ F → k ∉ F' := fun k hk hn hk' => by
    rcases h3 k hk' with e | e
    · exact hn e
    · have := hlt k hk; omega
  have mi : ∀ {k}, (k = px ∨ k = pdf ∨ k = pc ∨ vnow.ownBlock = some k ∨ k ∈ F) → k ∈ inBlocks px pdf pc vnow F ++ rowBlocks rows := fun hk => List.mem_append.2 (.inl (mem_inBlocks.2 hk))
  refine ⟨F', ⟨h2.heap h.blk h.n4, h.df.kept h2 h.n5 (fun k hk => (h.n7 k hk).2.2), h2.heap h.ch h.n6, h1, h.told, fun r hr => ?_, h.n1, h.n2, h.n3, old _ (mi (.inl rfl)) h.n4, old _ (mi (.inr (.inl rfl))) h.n5, old _ (mi (.inr (.inr (.inl rfl)))) h.n6,
    fun k hk => ⟨(h.n7 k hk).1, (h.n7 k hk).2.1, old k (mi (.inr (.inr (.inr (.inl hk))))) (h.n7 k hk).2.2⟩, h.room, h.cap1, h.cap2, h.few⟩, h2, h3⟩
  obtain ⟨e1, e2⟩ := h.each r hr
  refine ⟨e1.chg h2 (fun k hk hF => (e2 k hk).2 (mem_inBlocks.2 (.inr (.inr (.inr (.inr hF)))))), fun k hk => ?_⟩
  obtain ⟨e3, e4⟩ := e2 k hk
  refine ⟨Nat.lt_of_lt_of_le e3 h2.size, fun hk2 => ?_⟩
  rcases mem_inBlocks.1 hk2 with x | x | x | x | x
  · exact e4 (mem_inBlocks.2 (.inl x))
  · exact e4 (mem_inBlocks.2 (.inr (.inl x)))
  · exact e4 (mem_inBlocks.2 (.inr (.inr (.inl x))))
  · exact e4 (mem_inBlocks.2 (.inr (.inr (.inr (.inl x)))))
  · exact old k (List.mem_append.2 (.inr (mem_rowBlocks.2 ⟨r, hr, hk⟩))) (fun hF => e4 (mem_inBlocks.2 (.inr (.inr (.inr (.inr hF)))))) x

/-- A count of the box is turned. -/
theorem InIn.count {W : World} {seen' kept' : Int} (h : InIn w px pdf pl pd pc cap sn rc s F rows vnow) (hb : W.heap[px]? = some (boxObj pdf pl pc seen' kept')) (hc : Chg (In [px]) w W) (hs : s.box.seen ≤ seen') :
    InIn W px pdf pl pd pc cap sn rc { s with box := { s.box with seen := seen', kept := kept' } } F rows vnow := by
  have off : ∀ {k}, k ≠ px → ¬ In [px] k := fun hk hi => hk (by simpa using hi)
  refine ⟨hb, h.df.kept hc (off h.n1.symm) (fun k hk => off (h.n7 k hk).1), hc.heap h.ch (off h.n2.symm), h.log.kept hc (fun k hk => off (fun e => h.n4 (e ▸ hk))), h.told, fun r hr => ?_, h.n1, h.n2, h.n3, h.n4, h.n5, h.n6, h.n7, h.room, h.cap1, ?_, ?_⟩
  · obtain ⟨e1, e2⟩ := h.each r hr
    refine ⟨e1.chg hc (fun k hk => off (fun e => (e2 k hk).2 (mem_inBlocks.2 (.inl e)))), fun k hk => ⟨Nat.lt_of_lt_of_le (e2 k hk).1 hc.size, (e2 k hk).2⟩⟩
  · have := h.cap2; show (cap : Int) ≤ 2 * seen' + 1; omega
  · have := h.few; show (rows.length : Int) ≤ seen'; omega
end
end Go.Proofs.YtgpmnicmgehmbaaGreatDoor


namespace Go.Proofs.YtgpmnicmgehmbaaGreatDoor
open Go.RowKit Lamp Go.Conc
set_option maxRecDepth 100000
set_option maxHeartbeats 400000

theorem answer_calls {w : World} {px pdf pl pc cap sn rc : Nat} {seen kept : Int} {vals : List Value} (v : Value) (hb : w.heap[px]? = some (boxObj pdf pl pc seen kept)) (hc : w.heap[pc]? = some (chanObj cap vals sn rc)) (hr : vals.length ≤ cap) (h1 : 1 ≤ cap) (hcm : cap ≤ 10000000) (hne : px ≠ pc) :
    Calls Tryz.prog 48 #[.pointer (some ⟨px, 0, none⟩), v] w fun e w' => e = .returned (.tuple #[]) ∧ Answered w px pdf pl pc cap seen kept vals v w' := by
  rcases Nat.lt_or_ge vals.length cap with h | h
  · exact answer_room v hb hc h hne
  · exact answer_full v hb hc (by omega) h1 hcm hne

section
variable {w : World} {px pdf pl pd pc cap sn rc : Nat} {s : Lamp.Sys} {F G : List Nat} {rows : List (Value × Bytes)} {vnow : Value}

theorem InIn.answered {w' : World} {v : Value} {r : Bytes} (h : InIn w px pdf pl pd pc cap sn rc s F rows vnow) (hv : Bs w v r) (hf : ∀ k, v.ownBlock = some k → k < w.heap.size ∧ k ∉ inBlocks px pdf pc vnow F) (hfew : (rows.length : Int) + 1 ≤ s.box.seen)
    (ha : Answered w px pdf pl pc cap s.box.seen s.box.kept (rows.map (·.1)) v w') :
    ∃ pc' cap' sn' rc', InIn w' px pdf pl pd pc' cap' sn' rc' { s with box := { s.box with out := s.box.out ++ [r] } } F (rows ++ [(v, r)]) vnow ∧ Chg (In [px, pc]) w w' ∧ (pc' = pc ∨ w.heap.size ≤ pc') := by
  obtain ⟨pc', cap', sn', rc', a1, a2, a3, a4, a5, a6⟩ := ha
  simp only [List.length_map] at a3 a4
  have off : ∀ {k}, k ≠ px → k ≠ pc → ¬ In [px, pc] k := fun h1 h2 hi => by simp at hi; rcases hi with e | e <;> contradiction
  have hlt := h.lt
  have hpc : ∀ k, k < w.heap.size → k ≠ pc → k ≠ pc' := fun k h1 h2 e => by rcases a6 with x | x <;> omega
  have mi : ∀ {k}, (k = px ∨ k = pdf ∨ k = pc ∨ vnow.ownBlock = some k ∨ k ∈ F) → k ∈ inBlocks px pdf pc vnow F ++ rowBlocks rows := fun hk => List.mem_append.2 (.inl (mem_inBlocks.2 hk))
  have hnot : ∀ k, k < w.heap.size → k ∉ inBlocks px pdf pc vnow F → k ∉ inBlocks px pdf pc' vnow F := by
    intro k h1 h2 h3
    rcases mem_inBlocks.1 h3 with x | x | x | x | x
    · exact h2 (mem_inBlocks.2 (.inl x))
    · exact h2 (mem_inBlocks.2 (.inr (.inl x)))
    · rcases a6 with y | y
      · exact h2 (mem_inBlocks.2 (.inr (.inr (.inl (x.trans y)))))
      · omega
    · exact h2 (mem_inBlocks.2 (.inr (.inr (.inr (.inl x)))))
    · exact h2 (mem_inBlocks.2 (.inr (.inr (.inr (.inr x)))))
  have heach : ∀ r0 : Value × Bytes, Bs w r0.1 r0.2 → (∀ k, r0.1.ownBlock = some k → k < w.heap.size ∧ k ∉ inBlocks px pdf pc vnow F) → Bs w' r0.1 r0.2 ∧ ∀ k, r0.1.ownBlock = some k → k < w'.heap.size ∧ k ∉ inBlocks px pdf pc' vnow F := by
    intro r0 e1 e2
    refine ⟨e1.chg a5 (fun k hk => off (fun e => (e2 k hk).2 (mem_inBlocks.2 (.inl e))) (fun e => (e2 k hk).2 (mem_inBlocks.2 (.inr (.inr (.inl e)))))), fun k hk => ⟨Nat.lt_of_lt_of_le (e2 k hk).1 a5.size, hnot k (e2 k hk).1 (e2 k hk).2⟩⟩
  refine ⟨pc', cap', sn', rc', ⟨a1, h.df.kept a5 (off h.n1.symm h.n3) (fun k hk => off (h.n7 k hk).1 (h.n7 k hk).2.1), by rw [List.map_append]; exact a2, h.log.kept a5 (fun k hk => off (fun e => h.n4 (e ▸ hk)) (fun e => h.n6 (e ▸ hk))), ?_, ?_, h.n1,
    hpc px (hlt _ (mi (.inl rfl))) h.n2, hpc pdf (hlt _ (mi (.inr (.inl rfl)))) h.n3, h.n4, h.n5, ?_, ?_, by simp; omega, by omega, ?_, ?_⟩, a5, a6⟩
  · show s.box.out ++ [r] = _; rw [h.told]; simp
  · intro r0 hr0
    rcases List.mem_append.1 hr0 with x | x
    · exact heach r0 (h.each r0 x).1 (h.each r0 x).2
    · simp at x; subst x; exact heach (v, r) hv hf
  · rcases a6 with x | x
    · rw [x]; exact h.n6
    · intro hk; have := hlt _ (mi (.inr (.inr (.inr (.inr hk))))); omega
  · intro k hk
    obtain ⟨e1, e2, e3⟩ := h.n7 k hk
    exact ⟨e1, hpc k (hlt k (mi (.inr (.inr (.inr (.inl hk)))))) e2, e3⟩
  · show (cap' : Int) ≤ 2 * s.box.seen + 1
    have := h.cap2
    rcases a4 with x | ⟨x, y⟩
    · omega
    · omega
  · show ((rows ++ [(v, r)]).length : Int) ≤ s.box.seen
    simp
    omega
end

/-- How a message's handling ends. -/
def endOne : Option Int → Ending
  | none => .returned (.tuple #[])
  | some o => crashed o
end Go.Proofs.YtgpmnicmgehmbaaGreatDoor


namespace Go.Proofs.YtgpmnicmgehmbaaGreatDoor
open Go.RowKit Lamp Go.Conc
set_option maxRecDepth 100000
set_option maxHeartbeats 400000

/-- What a reply does to an inbox. -/
def replied (s : Lamp.Sys) : Option Bytes → Lamp.Sys
  | some r => { s with box := { s.box with seen := s.box.seen + 1, out := s.box.out ++ [r] } }
  | none => s
theorem answer_eq (s : Lamp.Sys) (m : Bytes) (k : Bool) : s.answer m k = replied (if k then { s with box := { s.box with kept := s.box.kept + 1 } } else s) (reply m k) := by
  cases k
  · unfold Lamp.Sys.answer
    cases reply m false <;> rfl
  · unfold Lamp.Sys.answer
    cases reply m true <;> rfl

section
variable {w : World} {px pdf pl pd pc cap sn rc : Nat} {s : Lamp.Sys} {F G : List Nat} {rows : List (Value × Bytes)} {vnow : Value}

theorem InIn.to {W : World} {S2 : Lamp.Sys} {pc' cap' sn' rc' : Nat} {F2 : List Nat} {rows2 : List (Value × Bytes)} (h2 : InIn W px pdf pl pd pc' cap' sn' rc' S2 F2 rows2 vnow) (hG : G = inBlocks px pdf pc vnow F ++ rowBlocks rows) (hc : Chg (In G) w W)
    (hF : ∀ k ∈ F2, k ∈ F ∨ w.heap.size ≤ k) (hpc : pc' = pc ∨ w.heap.size ≤ pc') (hrows : ∀ r ∈ rows2, r ∈ rows ∨ ∀ k, r.1.ownBlock = some k → w.heap.size ≤ k) : InTo w W px pl pd G S2 := by
  subst hG
  refine ⟨_, ⟨pdf, pc', cap', sn', rc', F2, rows2, vnow, h2, rfl⟩, hc, fun k hk => ?_⟩
  have mi : ∀ {k}, (k = px ∨ k = pdf ∨ k = pc ∨ vnow.ownBlock = some k ∨ k ∈ F) → k ∈ inBlocks px pdf pc vnow F ++ rowBlocks rows := fun hk => List.mem_append.2 (.inl (mem_inBlocks.2 hk))
  rcases List.mem_append.1 hk with hk | hk
  · rcases mem_inBlocks.1 hk with x | x | x | x | x
    · exact .inl (mi (.inl x))
    · exact .inl (mi (.inr (.inl x)))
    · rcases hpc with y | y
      · exact .inl (mi (.inr (.inr (.inl (x.trans y)))))
      · exact .inr (by omega)
    · exact .inl (mi (.inr (.inr (.inr (.inl x)))))
    · rcases hF k x with y | y
      · exact .inl (mi (.inr (.inr (.inr (.inr y)))))
      · exact .inr y
  · obtain ⟨r, hr, hk⟩ := mem_rowBlocks.1 hk
    rcases hrows r hr with x | x
    · exact .inl (List.mem_append.2 (.inr (mem_rowBlocks.2 ⟨r, x, hk⟩)))
    · exact .inr (x k hk)

theorem one_plain {bx n : Nat} (vm : Value) (m : Bytes) (h : InIn w px pdf pl pd pc cap sn rc s F rows vnow) (hG : G = inBlocks px pdf pc vnow F ++ rowBlocks rows) (hbx : w.heap[bx]? = some (.cells #[.pointer (some ⟨px, 0, none⟩)] 26 (0, 0))) (hbG : bx ∉ G)
    (hg : Glob w) (_hgG : ∀ k ∈ G, 6 ≤ k) (hm : Bs w vm m) (_hoff : Off (In G) vm) (hml : m.length ≤ 65536) (hfn : s.Fine n) (hn : n ≤ 1000000) (hst : Lamp.stored m = false) :
    Calls Tryz.prog 44 #[vm, .pointer (some ⟨bx, 0, none⟩)] w fun e w' => e = endOne (s.one m).2 ∧ InTo w w' px pl pd G (s.one m).1 := by
  have hone : s.one m = (replied s (reply m false), none) := by rw [Lamp.Sys.one_eq, hst, answer_eq]; rfl
  rw [hone]
  clear hone
  have HST := Lib.hid (stored_calls m hm hg (by omega))
  rw [hst] at HST
  have HRP := Lib.hid (fun w1 h1 h2 => reply_calls (w := w1) (v := vm) m false h1 h2 (by omega))
  have HIN := Lib.hid h
  have HBM := Lib.hid hm
  have HGL := Lib.hid hg
  have HBX := Lib.hid hbx
  have HFN := Lib.hid hfn
  have HGE := Lib.hid hG
  have hge0 : inBlocks px pdf pc vnow F ++ rowBlocks rows = G := hG.symm
  have HBG := Lib.hid hbG
  clear h hm hg hbx hfn hG _hoff _hgG hge0 hbG hst
  have c0 := cell_blk HBX.out 0
  simp only [List.getElem?_toArray, List.getElem?_cons_zero] at c0
  obtain ⟨q, cp, rfl, _, _, _, _⟩ := HBM.out
  generalize reply m false = rp at HRP ⊢
  go_enter Tryz.func44, Tryz.ntmps44
  go_wp2_with fail
  refine HST.out.mono ?_
  rintro e w1 ⟨rfl, hc1⟩
  have HC1 := Lib.hid hc1
  clear hc1 HST
  go_wp2_with fail
  refine (HRP.out _ (HBM.out.chg HC1.out (fun _ _ x => x)) (HGL.out.no HC1.out)).mono ?_
  rintro e w2 ⟨hend, hc2⟩
  have HC2 := Lib.hid (HC1.out.trans hc2)
  have HZ1 := Lib.hid HC1.out.size
  clear hc2 HRP c0
  cases rp with
  | none =>
    obtain rfl : e = _ := hend
    go_wp2_with fail
    go_end0
    refine ⟨rfl, ?_⟩
    refine InIn.to (HIN.out.kept HC2.out (fun _ _ x => x)) HGE.out (HC2.out.mono (fun _ _ x => x.elim)) (fun k hk => .inl hk) (.inl rfl) (fun r hr => .inl hr)
  | some r =>
    obtain ⟨q2, n2, c2, rfl, hnew⟩ := hend
    have hin2 := HIN.out.kept HC2.out (fun _ _ x => x)
    have hbx2 := HC2.out.heap HBX.out (fun x => x)
    have c0 := cell_blk hbx2 0
    have c3 := cell_blk hin2.blk 3
    have f3 := free_blk hin2.blk 3
    simp only [List.getElem?_toArray, List.getElem?_cons_succ, List.getElem?_cons_zero] at c0 c3
    have hs0 := HFN.out.seen0
    have hs1 : s.box.seen ≤ 1000000 := Int.le_trans HFN.out.seen1 (by omega)
    have HNEW := Lib.hid hnew
    have HIN2 := Lib.hid hin2
    clear hnew hin2
    have hbpx : bx ≠ px := by
      intro e
      apply HBG.out
      rw [HGE.out, e]
      exact List.mem_append.2 (.inl (mem_inBlocks.2 (.inl rfl)))
    obtain ⟨W3, hW3⟩ : ∃ W3, w2.setCell ⟨px, 3, none⟩ (.int .i64 (s.box.seen + 1)) = W3 := ⟨_, rfl⟩
    have hb3 : W3.heap[px]? = some (boxObj pdf pl pc (s.box.seen + 1) s.box.kept) := by
      rw [← hW3, set_blk HIN2.out.blk 3]; simp [boxObj]
    have hbx3 : W3.heap[bx]? = some (.cells #[.pointer (some ⟨px, 0, none⟩)] 26 (0, 0)) := by rw [← hW3]; exact set_other hbx2 _ _ hbpx
    have hc3 : Chg (In [px]) w2 W3 := by rw [← hW3]; exact (Chg.refl _ w2).setCell (.inl (by simp)) _
    have c03 := cell_blk hbx3 0
    simp only [List.getElem?_toArray, List.getElem?_cons_zero] at c03
    have hin3 := HIN2.out.count hb3 hc3 (by omega)
    have hnb : ∀ k, (Value.slice q2 n2 c2).ownBlock = some k → w.heap.size ≤ k := fun k hk => Nat.le_trans HZ1.out (HNEW.out.new k hk)
    have hnx : Off (In [px]) (Value.slice q2 n2 c2) := fun k hk hp => by
      have h1 := hnb k hk
      have h2 := HIN.out.lt px (List.mem_append.2 (.inl (mem_inBlocks.2 (.inl rfl))))
      simp at hp
      omega
    have HAN := Lib.hid (answer_calls (w := W3) (.slice q2 n2 c2) hin3.blk hin3.ch (by simpa using hin3.room) hin3.cap1 (by have := HIN2.out.cap2; omega) hin3.n2)
    have hbs3 := HNEW.out.bs.chg hc3 hnx
    have hof3 : ∀ k, (Value.slice q2 n2 c2).ownBlock = some k → k < W3.heap.size ∧ k ∉ inBlocks px pdf pc vnow F := fun k hk => by
      refine ⟨Nat.lt_of_lt_of_le (HNEW.out.own.lt hk) hc3.size, fun hk2 => ?_⟩
      have h1 := hnb k hk
      have h2 := HIN.out.lt k (List.mem_append.2 (.inl hk2))
      omega
    have HIN3 := Lib.hid hin3
    have HB3 := Lib.hid hbs3
    have HO3 := Lib.hid hof3
    have HC3 := Lib.hid hc3
    have HNB := Lib.hid hnb
    clear hb3 hbx3 hc3 hin3 hbs3 hof3 hnx hnb hbx2
    go_upto_region 6 with (fail)
    clear hW3 c0 c3 f3
    go_wp2_with fail
    refine HAN.out.mono ?_
    rintro e w4 ⟨rfl, ha⟩
    have HA := Lib.hid ha
    clear ha
    go_wp2_with fail
    go_end0
    refine ⟨rfl, ?_⟩
    obtain ⟨pc', cap', sn', rc', i1, i2, i3⟩ := HIN3.out.answered HB3.out HO3.out (by show (rows.length : Int) + 1 ≤ s.box.seen + 1; have := HIN.out.few; omega) HA.out
    have hcw3 : Chg (In G) w W3 := (HC2.out.mono (fun _ _ x => x.elim)).then HC3.out (by rw [HGE.out]; intro i hi; simp at hi; subst hi; exact .inl (List.mem_append.2 (.inl (mem_inBlocks.2 (.inl rfl)))))
    refine InIn.to i1 HGE.out (hcw3.then i2 ?_) (fun k hk => .inl hk) (i3.imp id (fun x => Nat.le_trans hcw3.size x)) ?_
    · rw [HGE.out]
      intro i hi
      simp at hi
      rcases hi with rfl | rfl
      · exact .inl (List.mem_append.2 (.inl (mem_inBlocks.2 (.inl rfl))))
      · exact .inl (List.mem_append.2 (.inl (mem_inBlocks.2 (.inr (.inr (.inl rfl))))))
    · intro r0 hr0
      rcases List.mem_append.1 hr0 with x | x
      · exact .inl x
      · simp at x; subst x; exact .inr HNB.out
end
end Go.Proofs.YtgpmnicmgehmbaaGreatDoor
