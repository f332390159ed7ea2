/- Plain laws of an inbox: a disk that isn't armed loses nothing; answers that are taken whenever; bytes in pieces.
   ack.Read.
   The law: a number's digits.
   The law: are they the same rows of bytes?
   Two inboxes side by side, and the answers that were taken of the first one. -/
import Derived.Test.YtgpmnicmgehmbaaGreatDoorB10
import Derived.Test.YtgpmnicmgehmbaaGreatDoorB09
import Derived.Test.YtgpmnicmgehmbaaGreatDoorB06
import Derived.Deep.Cut
import Derived.Deep.CutRange
import Derived.Test.YtgpmnicmgehmbaaGreatDoorB12
import Derived.Test.YtgpmnicmgehmbaaGreatDoorB03

namespace Lamp

/-- The power doesn't go. -/
structure Disk.Calm (d : Disk) : Prop where
  arm : d.arm = 0
  ops : 0 ≤ d.ops
theorem Disk.Calm.gone {d : Disk} (h : d.Calm) : d.begin.gone = false := by
  have h1 := h.arm
  have h2 := h.ops
  simp only [Disk.gone, Disk.begin, h1]
  exact beq_eq_false_iff_ne.2 (by omega)
theorem Disk.Calm.begin {d : Disk} (h : d.Calm) : d.begin.Calm := ⟨h.arm, by have := h.ops; show 0 ≤ d.ops + 1; omega⟩
theorem Disk.Calm.change {d : Disk} (h : d.Calm) {α : Type} {f : Disk → Disk} (a : α) (hf : (f d.begin).Calm) : (d.change f a).1.Calm ∧ (d.change f a).2 = .ok a := by
  unfold Disk.change
  simp only [h.gone, true_or, if_true, Bool.false_eq_true, if_false]
  exact ⟨hf, trivial⟩
theorem Disk.Calm.append {d : Disk} (h : d.Calm) (name b : Bytes) : (d.append name b).1.Calm ∧ ∃ r, (d.append name b).2 = .ok r := by
  unfold Disk.append
  split
  · exact ⟨h, _, rfl⟩
  · simp only [h.gone, Bool.false_eq_true, if_false]
    exact ⟨⟨h.begin.arm, h.begin.ops⟩, _, rfl⟩
theorem Disk.Calm.truncate {d : Disk} (h : d.Calm) (name : Bytes) (n : Int) : (d.truncate name n).1.Calm ∧ ∃ r, (d.truncate name n).2 = .ok r := by
  unfold Disk.truncate
  split
  · exact ⟨h, _, rfl⟩
  · split
    · exact ⟨h, _, rfl⟩
    · exact (fun t => ⟨t.1, _, t.2⟩) (h.change _ ⟨h.begin.arm, h.begin.ops⟩)
theorem Disk.Calm.sync {d : Disk} (h : d.Calm) (name : Bytes) : (d.sync name).1.Calm ∧ ∃ r, (d.sync name).2 = .ok r := by
  unfold Disk.sync
  split
  · exact ⟨h, _, rfl⟩
  · rename_i f hf
    have h' : ({ d with fail := max 0 (d.fail - 1) } : Disk).Calm := ⟨h.arm, h.ops⟩
    refine (fun t => ⟨t.1, _, t.2⟩) (h'.change _ ?_)
    split
    · exact ⟨h'.begin.arm, h'.begin.ops⟩
    · exact ⟨h'.begin.arm, h'.begin.ops⟩

theorem Log.add_calm {d : Disk} (h : d.Calm) (g : Log) (b : Bytes) : (Log.add d g b).1.Calm ∧ ∃ e, (Log.add d g b).2.2 = .ok e := by
  unfold Log.add
  split
  · exact ⟨h, _, rfl⟩
  · simp only []
    have hcut : ∀ (D : Disk) (e : Int), D.Calm → (match D.truncate g.name g.good with
        | (d, .ok _) => (d, g, Res.ok e)
        | (d, .lost o) => (d, g, .lost o) : Disk × Log × Res Int).1.Calm ∧ ∃ e', (match D.truncate g.name g.good with
        | (d, .ok _) => (d, g, Res.ok e)
        | (d, .lost o) => (d, g, .lost o) : Disk × Log × Res Int).2.2 = .ok e' := by
      intro D e hD
      obtain ⟨h1, r, h2⟩ := hD.truncate g.name g.good
      obtain ⟨⟨D2, r2⟩, hx⟩ : ∃ x, D.truncate g.name g.good = x := ⟨_, rfl⟩
      rw [hx] at h1 h2 ⊢
      dsimp only at h1 h2
      subst h2
      exact ⟨h1, _, rfl⟩
    obtain ⟨h1, r, h2⟩ := h.append g.name (entryBytes b)
    obtain ⟨⟨D1, r1⟩, hx⟩ : ∃ x, d.append g.name (entryBytes b) = x := ⟨_, rfl⟩
    rw [hx] at h1 h2 ⊢
    dsimp only at h1 h2
    subst h2
    obtain ⟨k, e⟩ := r
    dsimp only
    split
    · exact hcut D1 e h1
    · obtain ⟨h3, r3, h4⟩ := h1.sync g.name
      obtain ⟨⟨D2, r2⟩, hx2⟩ : ∃ x, D1.sync g.name = x := ⟨_, rfl⟩
      rw [hx2] at h3 h4 ⊢
      dsimp only at h3 h4
      subst h4
      dsimp only
      split
      · exact hcut D2 r3 h3
      · exact ⟨h3, _, rfl⟩

theorem Sys.one_calm {s : Sys} (h : s.disk.Calm) (m : Bytes) : (s.one m).1.disk.Calm ∧ (s.one m).2 = none := by
  rw [Sys.one_eq]
  split
  · obtain ⟨h1, e, h2⟩ := Log.add_calm h s.log m
    obtain ⟨⟨D, g, r⟩, hx⟩ : ∃ x, Log.add s.disk s.log m = x := ⟨_, rfl⟩
    rw [hx] at h1 h2 ⊢
    dsimp only at h1 h2
    subst h2
    dsimp only
    exact ⟨by rw [(Sys.answer_log _ _ _).1]; exact h1, rfl⟩
  · exact ⟨by rw [(Sys.answer_log _ _ _).1]; exact h, rfl⟩
theorem Sys.many_cons {s : Sys} (h : s.disk.Calm) (m : Bytes) (l : List Bytes) : s.many (m :: l) = (s.one m).1.many l := by
  obtain ⟨h1, h2⟩ := Sys.one_calm h m
  show (match s.one m with | (s, none) => s.many l | (s, some o) => (s, some o)) = _
  obtain ⟨⟨S, x⟩, hx⟩ : ∃ x, s.one m = x := ⟨_, rfl⟩
  rw [hx] at h1 h2 ⊢
  dsimp only at h2
  subst h2
  rfl
theorem Sys.many_calm (l : List Bytes) : ∀ {s : Sys}, s.disk.Calm → (s.many l).1.disk.Calm ∧ (s.many l).2 = none := by
  induction l with
  | nil => intro s h; exact ⟨h, rfl⟩
  | cons m l ih => intro s h; rw [Sys.many_cons h]; exact ih (Sys.one_calm h m).1
theorem Sys.feed_calm {s : Sys} (h : s.disk.Calm) (b : Bytes) : (s.feed b).1.disk.Calm ∧ (s.feed b).2 = none := Sys.many_calm _ h
theorem Sys.many_app {s : Sys} (h : s.disk.Calm) (l r : List Bytes) : s.many (l ++ r) = ((s.many l).1).many r := by
  induction l generalizing s with
  | nil => rfl
  | cons m l ih => rw [List.cons_append, Sys.many_cons h, Sys.many_cons h]; exact ih (Sys.one_calm h m).1

/-! ### answers that were taken -/
/-- The inbox with answers ahead of its own. -/
def Sys.ahead (s : Sys) (p : List Bytes) : Sys := { s with box := { s.box with out := p ++ s.box.out } }
theorem Sys.answer_ahead (s : Sys) (p : List Bytes) (m : Bytes) (k : Bool) : (s.ahead p).answer m k = (s.answer m k).ahead p := by
  unfold Sys.answer Sys.ahead
  simp only []
  cases k <;> (split <;> simp)
theorem Sys.one_ahead (s : Sys) (p : List Bytes) (m : Bytes) : (s.ahead p).one m = ((s.one m).1.ahead p, (s.one m).2) := by
  rw [Sys.one_eq, Sys.one_eq]
  split
  · have h0 : Log.add (s.ahead p).disk (s.ahead p).log m = Log.add s.disk s.log m := rfl
    rw [h0]
    obtain ⟨⟨D, g, r⟩, hx⟩ : ∃ x, Log.add s.disk s.log m = x := ⟨_, rfl⟩
    rw [hx]
    cases r with
    | ok e => exact congrArg (·, none) (Sys.answer_ahead ({ disk := D, log := g, box := s.box } : Sys) p m (e == 0))
    | lost o => rfl
  · exact congrArg (·, none) (Sys.answer_ahead _ p m _)
theorem Sys.many_ahead (p : List Bytes) (l : List Bytes) : ∀ (s : Sys), (s.ahead p).many l = ((s.many l).1.ahead p, (s.many l).2) := by
  induction l with
  | nil => intro s; rfl
  | cons m l ih =>
    intro s
    show (match (s.ahead p).one m with | (s, none) => s.many l | (s, some o) => (s, some o)) = ((match s.one m with | (s, none) => s.many l | (s, some o) => (s, some o)).1.ahead p, (match s.one m with | (s, none) => s.many l | (s, some o) => (s, some o)).2)
    rw [Sys.one_ahead]
    obtain ⟨⟨S, x⟩, hx⟩ : ∃ x, s.one m = x := ⟨_, rfl⟩
    rw [hx]
    cases x with
    | none => exact ih S
    | some o => rfl
theorem Sys.feed_ahead (s : Sys) (p : List Bytes) (b : Bytes) : (s.ahead p).feed b = ((s.feed b).1.ahead p, (s.feed b).2) :=
  Sys.many_ahead p (s.box.d.feed b).found { s with box := { s.box with d := { s.box.d.feed b with found := [] } } }
/-- As many were answered as there are answers, and some that were taken. -/
def Sys.Told (s : Sys) (c : Nat) : Prop := s.box.seen = ((c + s.box.out.length : Nat) : Int)
theorem Sys.Told.answer {s : Sys} {c : Nat} (h : s.Told c) (m : Bytes) (k : Bool) : (s.answer m k).Told c := by
  unfold Sys.Told at h ⊢
  unfold Sys.answer
  simp only []
  cases k <;> (split <;> simp only [Bool.false_eq_true, if_false, if_true, List.length_append, List.length_cons, List.length_nil] <;> omega)
theorem Sys.Told.one {s : Sys} {c : Nat} (h : s.Told c) (m : Bytes) : (s.one m).1.Told c := by
  rw [Sys.one_eq]
  split
  · split
    · rename_i D g e _
      exact Sys.Told.answer (s := ({ disk := D, log := g, box := s.box } : Sys)) h m _
    · exact h
  · exact h.answer m false
theorem Sys.Told.many {c : Nat} (l : List Bytes) : ∀ {s : Sys}, s.Told c → (s.many l).1.Told c := by
  induction l with
  | nil => intro s h; exact h
  | cons m l ih =>
    intro s h
    have h1 := h.one m
    show (match s.one m with | (s, none) => s.many l | (s, some o) => (s, some o)).1.Told c
    obtain ⟨⟨S, x⟩, hx⟩ : ∃ x, s.one m = x := ⟨_, rfl⟩
    rw [hx] at h1 ⊢
    cases x with
    | none => exact ih h1
    | some o => exact h1
theorem Sys.Told.feed {s : Sys} {c : Nat} (h : s.Told c) (b : Bytes) : (s.feed b).1.Told c := Sys.Told.many (s := { s with box := { s.box with d := { s.box.d.feed b with found := [] } } }) _ h

/-! ### bytes in pieces -/
theorem Def.step_found (d : Def) (f : List Bytes) (c : UInt8) : ({ d with found := f ++ d.found } : Def).step c = { d.step c with found := f ++ (d.step c).found } := by
  unfold Def.step Def.take Def.skip Def.lay Def.begin Def.outside
  repeat' split
  all_goals simp_all
theorem Def.feed_found (f : List Bytes) (b : Bytes) : ∀ (d : Def), ({ d with found := f ++ d.found } : Def).feed b = { d.feed b with found := f ++ (d.feed b).found } := by
  induction b with
  | nil => intro d; rfl
  | cons c l ih =>
    intro d
    show (({ d with found := f ++ d.found } : Def).step c).feed l = _
    rw [Def.step_found]
    exact ih (d.step c)
theorem Def.feed_app (d : Def) (b c : Bytes) : d.feed (b ++ c) = (d.feed b).feed c := by simp [Def.feed]
/-- The inbox with another deframer. -/
def Sys.withDef (s : Sys) (d : Def) : Sys := { s with box := { s.box with d := d } }
theorem Sys.answer_def (s : Sys) (d : Def) (m : Bytes) (k : Bool) : (s.withDef d).answer m k = (s.answer m k).withDef d := by
  unfold Sys.answer Sys.withDef
  simp only []
  cases k <;> (split <;> simp)
theorem Sys.one_def (s : Sys) (d : Def) (m : Bytes) : (s.withDef d).one m = ((s.one m).1.withDef d, (s.one m).2) := by
  rw [Sys.one_eq, Sys.one_eq]
  split
  · have h0 : Log.add (s.withDef d).disk (s.withDef d).log m = Log.add s.disk s.log m := rfl
    rw [h0]
    obtain ⟨⟨D, g, r⟩, hx⟩ : ∃ x, Log.add s.disk s.log m = x := ⟨_, rfl⟩
    rw [hx]
    cases r with
    | ok e => exact congrArg (·, none) (Sys.answer_def ({ disk := D, log := g, box := s.box } : Sys) d m (e == 0))
    | lost o => rfl
  · exact congrArg (·, none) (Sys.answer_def _ d m _)
theorem Sys.many_def (d : Def) (l : List Bytes) : ∀ (s : Sys), (s.withDef d).many l = ((s.many l).1.withDef d, (s.many l).2) := by
  induction l with
  | nil => intro s; rfl
  | cons m l ih =>
    intro s
    show (match (s.withDef d).one m with | (s, none) => s.many l | (s, some o) => (s, some o)) = ((match s.one m with | (s, none) => s.many l | (s, some o) => (s, some o)).1.withDef d, (match s.one m with | (s, none) => s.many l | (s, some o) => (s, some o)).2)
    rw [Sys.one_def]
    obtain ⟨⟨S, x⟩, hx⟩ : ∃ x, s.one m = x := ⟨_, rfl⟩
    rw [hx]
    cases x with
    | none => exact ih S
    | some o => rfl
theorem Sys.feed_with (s : Sys) (b : Bytes) : s.feed b = (((s.many (s.box.d.feed b).found).1).withDef { s.box.d.feed b with found := [] }, (s.many (s.box.d.feed b).found).2) :=
  Sys.many_def { s.box.d.feed b with found := [] } (s.box.d.feed b).found s
theorem Sys.withDef_same {s : Sys} {d e : Def} : (s.withDef d).withDef e = s.withDef e := rfl
theorem Sys.feed_def {s : Sys} (b : Bytes) : (s.feed b).1.box.d = { s.box.d.feed b with found := [] } := by rw [Sys.feed_with]; rfl
/-- Two pieces are one. -/
theorem Sys.feed_app {s : Sys} (h : s.disk.Calm) (b c : Bytes) : s.feed (b ++ c) = ((s.feed b).1).feed c := by
  have hd : (s.box.d.feed (b ++ c)) = { ({ s.box.d.feed b with found := [] } : Def).feed c with found := (s.box.d.feed b).found ++ (({ s.box.d.feed b with found := [] } : Def).feed c).found } := by
    rw [Def.feed_app, ← Def.feed_found]
    simp
  have hm : ∀ S : Sys, S.many (({ s.box.d.feed b with found := [] } : Def).feed c).found = ((S.many (({ s.box.d.feed b with found := [] } : Def).feed c).found).1, (S.many (({ s.box.d.feed b with found := [] } : Def).feed c).found).2) := fun _ => rfl
  rw [Sys.feed_with s (b ++ c), Sys.feed_with ((s.feed b).1) c, Sys.feed_def, hd]
  simp only []
  rw [Sys.many_app h]
  have e : (s.feed b).1 = ((s.many (s.box.d.feed b).found).1).withDef { s.box.d.feed b with found := [] } := by rw [Sys.feed_with]
  rw [e, Sys.many_def]
  rfl
end Lamp


namespace Lamp
def msa : Bytes := [77, 83, 65]
/-- What an answer tells: the code, the id, the error. -/
def ackRead (b : Bytes) : Bytes × Bytes × Int :=
  match readHead b with
  | .error e => ([], [], e)
  | .ok h =>
    if (split b).length < 2 ∨ segName ((split b).getD 1 []) ≠ msa then ([], [], 10)
    else if known (field ((split b).getD 1 []) 1 h.d) = false then ([], [], 17)
    else (field ((split b).getD 1 []) 1 h.d, field ((split b).getD 1 []) 2 h.d, 0)
end Lamp
namespace Go.Proofs.YtgpmnicmgehmbaaGreatDoor
open Go.RowKit Lamp
set_option maxRecDepth 100000
set_option maxHeartbeats 1000000

def ackV (c i : Bytes) : Value := .agg #[.string (ofL c), .string (ofL i)]
def endAck (x : Bytes × Bytes × Int) : Ending := .returned (.tuple #[ackV x.1 x.2.1, .int .i64 x.2.2])
abbrev noAck : Array Value := #[.string ⟨#[]⟩, .string ⟨#[]⟩]
theorem noAck_one : noAck.all (·.oneCell') = true := by kernel_rfl
theorem ack_one (c i : Bytes) : (#[Value.string (ofL c), .string (ofL i)] : Array Value).all (·.oneCell') = true := all_oneCell_toArray (by intro v hv; simp at hv; rcases hv with rfl | rfl <;> rfl)
theorem aread_error {w : World} {v : Value} (b : Bytes) (e : Int) (hb : Bs w v b) (hg : Glob w) (hbl : b.length ≤ 100000) (he : readHead b = .error e) :
    Calls Tryz.prog 28 #[v] w fun e' w' => e' = endAck ([], [], e) ∧ Chg No w w' := by
  have HR := Lib.hid (fun w1 h1 h2 => mread_calls (w := w1) (v := v) b h1 h2 (by omega))
  have hne := readHead_err he
  rw [he] at HR
  unfold endHead at HR
  simp only at HR
  rw [hvH_none] at HR
  have HB0 := Lib.hid hb
  obtain ⟨q, cap, rfl, _, _, _, _⟩ := hb
  clear he
  go_enter Tryz.func28, Tryz.ntmps28
  go_wp2_with fail
  refine (HR.out _ (HB0.out.chg ((Chg.refl No w).alloc _) (fun _ _ x => x)) (hg.no ((Chg.refl No w).alloc _))).mono ?_
  rintro e1 w1 ⟨rfl, hc⟩
  have hb1 := hc.heap (heap_alloc_new _ _) (fun x => x)
  have HC := Lib.hid (((Chg.refl No w).alloc _).trans hc)
  have HB1 := Lib.hid hb1
  clear hc hb1 HR
  go_wp2_with (refine wpList_store_row rfl 55 _ _ rfl w.heap.size noAck rfl rfl 55 _ (heap_old_al HB1.out _) (by kernel_rfl) rfl noAck_one ?_; intro hb2 hc2; have HB2 := Lib.hid hb2; have HC2 := Lib.hid hc2; clear hb2 hc2)
  refine bodyPost_ret (results_cell_tmp_row rfl _ _ w.heap.size 55 noAck (0, 0) _ rfl HB2.out Tryz.underlying55 rfl (by kernel_rfl)) rfl ⟨rfl, ?_⟩
  exact (HC.out.alloc _).then HC2.out (by rintro i rfl; right; exact Nat.le_refl _)

/-- The head can be read; the second segment isn't an MSA. -/
theorem aread_form {w : World} {v : Value} (b : Bytes) (h : Head) (hb : Bs w v b) (hg : Glob w) (hbl : b.length ≤ 100000) (he : readHead b = .ok h) (hms : (split b).length < 2 ∨ segName ((split b).getD 1 []) ≠ msa) :
    Calls Tryz.prog 28 #[v] w fun e' w' => e' = endAck ([], [], 10) ∧ Chg No w w' := by
  have HR := Lib.hid (fun w1 h1 h2 => mread_calls (w := w1) (v := v) b h1 h2 (by omega))
  have HS := Lib.hid (fun w1 h1 h2 => split_calls0 (w := w1) (v := v) b h1 h2 (by omega))
  rw [he] at HR
  unfold endHead at HR
  simp only at HR
  unfold hvH hv at HR
  have HB0 := Lib.hid hb
  have hsl := split_each b
  obtain ⟨q, cap, rfl, _, _, _, _⟩ := hb
  clear he
  go_enter Tryz.func28, Tryz.ntmps28
  go_wp2_with fail
  refine (HR.out _ (HB0.out.chg ((Chg.refl No w).alloc _) (fun _ _ x => x)) (hg.no ((Chg.refl No w).alloc _))).mono ?_
  rintro e1 w1 ⟨rfl, hc⟩
  have hb1 := hc.heap (heap_alloc_new _ _) (fun x => x)
  have HC := Lib.hid (((Chg.refl No w).alloc _).trans hc)
  have HB1 := Lib.hid hb1
  clear hc hb1 HR
  go_wp2_with fail
  obtain ⟨W2, hW2⟩ : ∃ W2, w1.alloc (.cells (headCells h.d h.at) 112) = W2 := ⟨_, rfl⟩
  have hcW : Chg No w1 W2 := by rw [← hW2]; exact (Chg.refl No w1).alloc _
  unfold headCells at hW2
  rw [hW2]
  have HC2 := Lib.hid (HC.out.trans hcW)
  have HB2 := Lib.hid (hcW.heap HB1.out (fun x => x))
  clear hcW hW2 HC HB1
  refine (HS.out _ (HB0.out.chg HC2.out (fun _ _ x => x)) (hg.no HC2.out)).mono ?_
  rintro e2 w3 ⟨⟨u, rfl, hown, _⟩, hc⟩
  obtain ⟨qu, cu, hu⟩ := hown.slice
  have hsz : (strs (split b)).length = (split b).length := by simp [strs]
  rw [hsz] at hu
  subst hu
  have HC3 := Lib.hid (HC2.out.trans hc)
  have HB3 := Lib.hid (hc.heap HB2.out (fun x => x))
  by_cases h2 : (split b).length < 2
  · have hd : decide (((split b).length : Int) < 2) = true := by rw [decide_eq_true_iff]; omega
    clear hown hc hsz
    go_wp2_with (refine wpList_store_row rfl 55 _ _ rfl w.heap.size noAck rfl rfl 55 _ HB3.out (by kernel_rfl) rfl noAck_one ?_; intro hb4 hc4; have HB4 := Lib.hid hb4; have HC4 := Lib.hid hc4; clear hb4 hc4)
    refine bodyPost_ret (results_cell_tmp_row rfl _ _ w.heap.size 55 noAck (0, 0) _ rfl HB4.out Tryz.underlying55 rfl (by kernel_rfl)) rfl ⟨rfl, ?_⟩
    exact HC3.out.then HC4.out (by rintro i rfl; right; exact Nat.le_refl _)
  · have hd : decide (((split b).length : Int) < 2) = false := by rw [decide_eq_false_iff_not]; omega
    have hd1 : (1 : Int) < (split b).length := by omega
    obtain ⟨g, cg, hv, hcell⟩ := hown.at 1 (.string (ofL ((split b).getD 1 []))) (by simp [strs, List.getD, show 1 < (split b).length by omega])
    injection hv with e1 e2 e3
    subst e1
    have hne := hms.resolve_left h2
    have HN := Lib.hid (name_calls w3 ((split b).getD 1 []) (by have := hsl ((split b).getD 1 []) (by rw [List.getD_eq_getElem?_getD, List.getElem?_eq_getElem (show 1 < (split b).length by omega)]; simp); omega))
    have hnm : (segName ((split b).getD 1 []) == [77, 83, 65]) = false := by simpa [msa] using hne
    generalize (split b).getD 1 [] = s1 at *
    clear hown hc hsz hne hms hsl e2 e3 h2
    go_wp2_with fail
    refine HN.out.mono ?_
    rintro e4 w4 ⟨rfl, rfl⟩
    go_wp2_with (refine wpList_store_row rfl 55 _ _ rfl w.heap.size noAck rfl rfl 55 _ HB3.out (by kernel_rfl) rfl noAck_one ?_; intro hb4 hc4; have HB4 := Lib.hid hb4; have HC4 := Lib.hid hc4; clear hb4 hc4)
    refine bodyPost_ret (results_cell_tmp_row rfl _ _ w.heap.size 55 noAck (0, 0) _ rfl HB4.out Tryz.underlying55 rfl (by kernel_rfl)) rfl ⟨rfl, ?_⟩
    exact HC3.out.then HC4.out (by rintro i rfl; right; exact Nat.le_refl _)

/-- How it ends, of the code and the id. -/
def ackEnd (c i : Bytes) : Bytes × Bytes × Int := if known c = false then ([], [], 17) else (c, i, 0)
/-- The head can be read, and the second segment is an MSA. -/
theorem aread_msa {w : World} {v : Value} (b : Bytes) (h : Head) (s1 : Bytes) (hb : Bs w v b) (hg : Glob w) (hbl : b.length ≤ 100000) (he : readHead b = .ok h) (h2 : ¬ (split b).length < 2) (hs1 : (split b).getD 1 [] = s1) (hms : segName s1 = msa) :
    Calls Tryz.prog 28 #[v] w fun e' w' => e' = endAck (ackEnd (field s1 1 h.d) (field s1 2 h.d)) ∧ Chg No w w' := by
  have HR := Lib.hid (fun w1 h1 h2 => mread_calls (w := w1) (v := v) b h1 h2 (by omega))
  have HS := Lib.hid (fun w1 h1 h2 => split_calls0 (w := w1) (v := v) b h1 h2 (by omega))
  rw [he] at HR
  unfold endHead at HR
  simp only at HR
  unfold hvH hv at HR
  have HB0 := Lib.hid hb
  have HGL := Lib.hid hg
  have hsl : s1.length ≤ b.length := by
    rw [← hs1, List.getD_eq_getElem?_getD, List.getElem?_eq_getElem (show 1 < (split b).length by omega)]
    exact split_each b _ (by simp)
  obtain ⟨q, cap, rfl, _, _, _, _⟩ := hb
  have HF1 := Lib.hid (fun w1 hw => field_calls (w := w1) s1 1 h.d hw (by omega) (by decide) (by decide))
  have HF2 := Lib.hid (fun w1 hw => field_calls (w := w1) s1 2 h.d hw (by omega) (by decide) (by decide))
  unfold dv at HF1 HF2
  generalize field s1 1 h.d = cd at *
  generalize field s1 2 h.d = id at *
  clear he
  go_enter Tryz.func28, Tryz.ntmps28
  go_wp2_with fail
  refine (HR.out _ (HB0.out.chg ((Chg.refl No w).alloc _) (fun _ _ x => x)) (hg.no ((Chg.refl No w).alloc _))).mono ?_
  rintro e1 w1 ⟨rfl, hc⟩
  have hb1 := hc.heap (heap_alloc_new _ _) (fun x => x)
  have HC := Lib.hid (((Chg.refl No w).alloc _).trans hc)
  have HB1 := Lib.hid hb1
  clear hc hb1 HR
  go_wp2_with fail
  obtain ⟨W2, hW2⟩ : ∃ W2, w1.alloc (.cells (headCells h.d h.at) 112) = W2 := ⟨_, rfl⟩
  have hcW : Chg No w1 W2 := by rw [← hW2]; exact (Chg.refl No w1).alloc _
  have hh2 : W2.heap[w1.heap.size]? = some (.cells (headCells h.d h.at) 112 (0, 0)) := by rw [← hW2]; exact heap_alloc_new _ _
  unfold headCells at hW2
  rw [hW2]
  have HC2 := Lib.hid (HC.out.trans hcW)
  have HB2 := Lib.hid (hcW.heap HB1.out (fun x => x))
  clear hcW hW2 HC HB1
  refine (HS.out _ (HB0.out.chg HC2.out (fun _ _ x => x)) (hg.no HC2.out)).mono ?_
  rintro e2 w3 ⟨⟨u, rfl, hown, _⟩, hc⟩
  obtain ⟨qu, cu, hu⟩ := hown.slice
  have hsz : (strs (split b)).length = (split b).length := by simp [strs]
  rw [hsz] at hu
  subst hu
  have HC3 := Lib.hid (HC2.out.trans hc)
  have HB3 := Lib.hid (hc.heap HB2.out (fun x => x))
  have HH3 := Lib.hid (hc.heap hh2 (fun x => x))
  have hd : decide (((split b).length : Int) < 2) = false := by rw [decide_eq_false_iff_not]; omega
  have hd1 : (1 : Int) < (split b).length := by omega
  obtain ⟨g, cg, hv, hcell⟩ := hown.at 1 (.string (ofL ((split b).getD 1 []))) (by simp [strs, List.getD, show 1 < (split b).length by omega])
  rw [hs1] at hcell
  injection hv with e1 e2 e3
  subst e1
  have HN := Lib.hid (name_calls w3 s1 (by omega))
  have hnm : (segName s1 == [77, 83, 65]) = true := by rw [hms]; rfl
  have HCE := Lib.hid hcell
  have HKN := Lib.hid (fun w1 hw c => known_calls (w := w1) hw c)
  clear hown hc hsz hms e2 e3 h2 hs1 hsl hh2
  go_wp2_with fail
  refine HN.out.mono ?_
  rintro e4 w4 ⟨rfl, rfl⟩
  clear HN
  go_upto_region 8 with fail
  obtain ⟨W4, hW4⟩ : ∃ W4, w3.alloc (.cells noAck 55) = W4 := ⟨_, rfl⟩
  have hcW : Chg No w3 W4 := by rw [← hW4]; exact (Chg.refl No w3).alloc _
  have HA0 : Hid (W4.heap[w3.heap.size]? = some (.cells noAck 55 (0, 0))) := by rw [← hW4]; exact heap_alloc_new _ _
  have HK0 := Lib.hid (hcW.heap HH3.out (fun x => x))
  have HG0 := Lib.hid (hcW.cell HCE.out (fun x => x))
  have HX0 := Lib.hid hcW
  rw [hW4]
  clear hcW hW4
  go_cut [] from 30 to 39 (fun wx => wx.heap[w3.heap.size]? = some (.cells #[.string (ofL cd), .string ⟨#[]⟩] 55 (0, 0)) ∧ Chg No w3 wx)
  case first =>
    have l0 := cell_blk HK0.out 0
    have l1 := cell_blk HK0.out 1
    have l2 := cell_blk HK0.out 2
    have l3 := cell_blk HK0.out 3
    have l4 := cell_blk HK0.out 4
    simp only [headCells, List.getElem?_toArray, List.getElem?_cons_succ, List.getElem?_cons_zero] at l0 l1 l2 l3 l4
    have cg1 := HG0.out
    have HF0 := Lib.hid (fun wd (hd : Chg No W4 wd) => HF1.out wd (HGL.out.no (HC3.out.trans (HX0.out.trans hd))))
    go_region_law ((go_simp; go_at_call 64; refine (HF0.out _ (Chg.drewN (Chg.refl No _) 1)).mono ?_; rintro e w9 ⟨rfl, hc9⟩; have hk9 := hc9.heap (show (W4.drewN 1).heap[w3.heap.size]? = some (.cells noAck 55 (0, 0)) from HA0.out) (fun x => x); have f9 := free_blk hk9 0; have k9 := cell_blk hk9 0))
    all_goals
      have hs9 := set_blk hk9 0 (.string (ofL cd))
      have hx9 : Chg No w3 (w9.setCell ⟨w3.heap.size, 0, none⟩ (.string (ofL cd))) := ((HX0.out.trans (Chg.drewN (Chg.refl No _) 1)).trans hc9).setCell (.inr (Nat.le_refl _)) _
      have HS9 := Lib.hid hs9
      have HX9 := Lib.hid hx9
      clear l0 l1 l2 l3 l4 cg1 hk9 f9 k9 hs9 hx9 hc9
      go_wp2_with fail
      go_meet
      exact ⟨HS9.out, HX9.out⟩
  case rest =>
  obtain ⟨hak, hck⟩ := hcut
  have HA1 := Lib.hid hak
  have HK1 := Lib.hid (hck.heap HH3.out (fun x => x))
  have HG1 := Lib.hid (hck.cell HCE.out (fun x => x))
  have HX1 := Lib.hid hck
  clear hak hck
  go_upto_region 9 with fail
  go_cut [] from 40 to 49 (fun wx => wx.heap[w3.heap.size]? = some (.cells #[.string (ofL cd), .string (ofL id)] 55 (0, 0)) ∧ Chg No w3 wx)
  case first =>
    have l0 := cell_blk HK1.out 0
    have l1 := cell_blk HK1.out 1
    have l2 := cell_blk HK1.out 2
    have l3 := cell_blk HK1.out 3
    have l4 := cell_blk HK1.out 4
    simp only [headCells, List.getElem?_toArray, List.getElem?_cons_succ, List.getElem?_cons_zero] at l0 l1 l2 l3 l4
    have cg1 := HG1.out
    have HF3 := Lib.hid (fun wd (hd : Chg No wc wd) => HF2.out wd (HGL.out.no (HC3.out.trans (HX1.out.trans hd))))
    go_region_law ((go_simp; go_at_call 64; refine (HF3.out _ (Chg.drewN (Chg.refl No _) 1)).mono ?_; rintro e w9 ⟨rfl, hc9⟩; have hk9 := hc9.heap (show (wc.drewN 1).heap[w3.heap.size]? = some (.cells #[.string (ofL cd), .string ⟨#[]⟩] 55 (0, 0)) from HA1.out) (fun x => x); have f9 := free_blk hk9 1; have k9 := cell_blk hk9 1))
    all_goals
      have hs9 := set_blk hk9 1 (.string (ofL id))
      have hx9 : Chg No w3 (w9.setCell ⟨w3.heap.size, 1, none⟩ (.string (ofL id))) := ((HX1.out.trans (Chg.drewN (Chg.refl No _) 1)).trans hc9).setCell (.inr (Nat.le_refl _)) _
      have HS9 := Lib.hid hs9
      have HX9 := Lib.hid hx9
      clear l0 l1 l2 l3 l4 cg1 hk9 f9 k9 hs9 hx9 hc9
      go_wp2_with fail
      go_meet
      exact ⟨HS9.out, HX9.out⟩
  case rest =>
  obtain ⟨hak, hck⟩ := hcut
  have HA2 := Lib.hid hak
  have HX2 := Lib.hid (HC3.out.trans hck)
  have HB5 := Lib.hid (hck.heap HB3.out (fun x => x))
  have HKC := Lib.hid (HKN.out wc (HGL.out.no HX2.out) cd)
  have q0 := cell_blk hak 0
  simp only [List.getElem?_toArray, List.getElem?_cons_zero] at q0
  clear hak hck
  go_wp2_with fail
  refine HKC.out.mono ?_
  rintro e5 w5 ⟨rfl, rfl⟩
  cases hk : known cd
  · go_wp2_with (refine wpList_store_row rfl 55 _ _ rfl w.heap.size noAck rfl rfl 55 _ HB5.out (by kernel_rfl) rfl noAck_one ?_; intro hb6 hc6; have HB6 := Lib.hid hb6; have HC6 := Lib.hid hc6; clear hb6 hc6)
    refine bodyPost_ret (results_cell_tmp_row rfl _ _ w.heap.size 55 noAck (0, 0) _ rfl HB6.out Tryz.underlying55 rfl (by kernel_rfl)) rfl ⟨by unfold ackEnd; rw [if_pos hk]; rfl, ?_⟩
    exact HX2.out.then HC6.out (by rintro i rfl; right; exact Nat.le_refl _)
  · go_wp2_with (first
      | (refine wpList_load_row rfl 55 _ rfl w3.heap.size rfl 55 _ (0, 0) _ HA2.out Tryz.underlying55 rfl (by kernel_rfl) ?_)
      | (refine wpList_store_row rfl 55 _ _ rfl w.heap.size #[.string (ofL cd), .string (ofL id)] rfl rfl 55 _ HB5.out (by kernel_rfl) rfl (ack_one cd id) ?_; intro hb6 hc6; have HB6 := Lib.hid hb6; have HC6 := Lib.hid hc6; clear hb6 hc6))
    refine bodyPost_ret (results_cell_tmp_row rfl _ _ w.heap.size 55 #[.string (ofL cd), .string (ofL id)] (0, 0) _ rfl HB6.out Tryz.underlying55 rfl (by kernel_rfl)) rfl ⟨by unfold ackEnd; rw [if_neg (by rw [hk]; simp)]; rfl, ?_⟩
    exact HX2.out.then HC6.out (by rintro i rfl; right; exact Nat.le_refl _)

theorem aread_calls {w : World} {v : Value} (b : Bytes) (hb : Bs w v b) (hg : Glob w) (hbl : b.length ≤ 100000) :
    Calls Tryz.prog 28 #[v] w fun e w' => e = endAck (ackRead b) ∧ Chg No w w' := by
  unfold ackRead
  cases he : readHead b with
  | error e => exact aread_error b e hb hg hbl he
  | ok h =>
    simp only []
    by_cases h1 : (split b).length < 2 ∨ segName ((split b).getD 1 []) ≠ msa
    · rw [if_pos h1]; exact aread_form b h hb hg hbl he h1
    · rw [if_neg h1]
      simp only [not_or, ne_eq, Decidable.not_not] at h1
      exact aread_msa b h _ hb hg hbl he h1.1 rfl h1.2
end Go.Proofs.YtgpmnicmgehmbaaGreatDoor


namespace Lamp
/-- A number's digits. -/
def numText (n : Nat) : Bytes := if n < 10 then [UInt8.ofNat (48 + n)] else numText (n / 10) ++ [UInt8.ofNat (48 + n % 10)]
theorem numText_step (n : Nat) (h : 10 ≤ n) : numText n = numText (n / 10) ++ [UInt8.ofNat (48 + n % 10)] := by
  rw [numText, if_neg (by omega)]
theorem numText_one (n : Nat) (h : n < 10) : numText n = [UInt8.ofNat (48 + n)] := by
  rw [numText, if_pos h]
theorem numText_ne (n : Nat) : numText n ≠ [] := by
  by_cases h : n < 10
  · rw [numText_one n h]; simp
  · rw [numText_step n (by omega)]; simp
theorem numText_digit (n : Nat) : ∀ c ∈ numText n, 48 ≤ c ∧ c ≤ 57 := by
  induction n using Nat.strongRecOn with
  | ind n ih =>
    have hd : ∀ m, m < 10 → ∀ c ∈ [UInt8.ofNat (48 + m)], 48 ≤ c ∧ c ≤ 57 := by
      intro m hm c hc
      simp only [List.mem_singleton] at hc
      subst hc
      have : m = 0 ∨ m = 1 ∨ m = 2 ∨ m = 3 ∨ m = 4 ∨ m = 5 ∨ m = 6 ∨ m = 7 ∨ m = 8 ∨ m = 9 := by omega
      rcases this with rfl | rfl | rfl | rfl | rfl | rfl | rfl | rfl | rfl | rfl <;> decide
    by_cases h : n < 10
    · rw [numText_one n h]; exact hd n h
    · rw [numText_step n (by omega)]
      intro c hc
      rcases List.mem_append.1 hc with hc | hc
      · exact ih (n / 10) (by omega) c hc
      · exact hd (n % 10) (by omega) c hc
theorem numText_len (n : Nat) : ∀ k, n < 10 ^ (k + 1) → (numText n).length ≤ k + 1 := by
  induction n using Nat.strongRecOn with
  | ind n ih =>
    intro k hk
    by_cases h : n < 10
    · rw [numText_one n h]; simp
    · rw [numText_step n (by omega), List.length_append]
      cases k with
      | zero => simp at hk; omega
      | succ k =>
        have := ih (n / 10) (by omega) k (by rw [Nat.pow_succ] at hk; omega)
        simp
        omega
end Lamp
namespace Go.Proofs.YtgpmnicmgehmbaaGreatDoor
open Go.RowKit Lamp Go.Conc
set_option maxRecDepth 100000
set_option maxHeartbeats 1000000

/-- Is the text empty? -/
def emptyOne : Value → Nat
  | .string x => if x.size = 0 then 1 else 0
  | _ => 0
theorem emptyOne_nil : emptyOne (.string (ofL [])) = 1 := rfl
theorem emptyOne_cons (c : UInt8) (l : Bytes) : emptyOne (.string (ofL (c :: l))) = 0 := by simp [emptyOne]

theorem num_calls (w : World) (n : Nat) (hn : n < 1000000000) : Calls Tryz.prog 26 #[.int .i64 n] w fun e w' => e = .returned (.string (ofL (numText n))) ∧ Chg No w w' := by
  have HN := Lib.hid (numText_len n 8 (by omega))
  go_enter Tryz.func26, Tryz.ntmps26
  go_wp2_with fail
  go_loopw [0, 3] (fun i s wr => ∃ (m : Nat) (l : Bytes), i = .int .i64 m ∧ s = .string (ofL l) ∧ m < 1000000000 ∧ Chg No w wr ∧ ((m = 0 ∧ l ≠ [] ∧ l = numText n) ∨ ((0 < m ∨ l = []) ∧ numText n = numText m ++ l)))
    (fun i s _ => 2 * (intOf i).toNat + emptyOne s)
  case atStart => exact ⟨n, [], rfl, rfl, hn, Chg.refl _ _, .inr ⟨.inr rfl, by simp⟩⟩
  case round =>
    obtain ⟨m, l, rfl, rfl, hm, hc, hcase⟩ := hrel
    have HC := Lib.hid hc
    clear hc
    rcases hcase with ⟨rfl, hl, hln⟩ | ⟨hgo, hln⟩
    · have hle : l.isEmpty = false := by simpa using hl
      clear hl
      subst hln
      go_wp2_with fail
      go_ret
      exact ⟨rfl, HC.out⟩
    · have hll : l.length ≤ 9 := by have h1 := congrArg List.length hln; have := HN.out; rw [List.length_append] at h1; omega
      have HLN := Lib.hid hln
      have HGO := Lib.hid hgo
      clear hln hgo
      have hm9 : (m : Int) < 1000000000 := by omega
      have hdn : ((UInt8.ofNat (48 + m % 10)).toNat : Int) = 48 + (m : Int) % 10 := by
        rw [UInt8.toNat_ofNat']
        omega
      have hcv := run_sign wr (UInt8.ofNat (48 + m % 10))
      rw [hdn] at hcv
      have hnext : ∀ W, Chg No w W → ∃ (m' : Nat) (l' : Bytes), Value.int .i64 ((m : Int) / 10) = .int .i64 m' ∧ Value.string (ofL (UInt8.ofNat (48 + m % 10) :: l)) = .string (ofL l') ∧ m' < 1000000000 ∧ Chg No w W ∧ ((m' = 0 ∧ l' ≠ [] ∧ l' = numText n) ∨ ((0 < m' ∨ l' = []) ∧ numText n = numText m' ++ l')) := by
        intro W hW
        refine ⟨m / 10, UInt8.ofNat (48 + m % 10) :: l, by push_cast; rfl, rfl, by omega, hW, ?_⟩
        by_cases hm10 : m < 10
        · refine .inl ⟨by omega, by simp, ?_⟩
          rw [HLN.out, numText_one m hm10, show m % 10 = m by omega]
          rfl
        · refine .inr ⟨.inl (by omega), ?_⟩
          rw [HLN.out, numText_step m (by omega)]
          simp
      have hmeas : 2 * (intOf (Value.int .i64 ((m : Int) / 10))).toNat + emptyOne (.string (ofL (UInt8.ofNat (48 + m % 10) :: l))) < 2 * (intOf (Value.int .i64 (m : Int))).toNat + emptyOne (.string (ofL l)) := by
        rw [emptyOne_cons]
        rcases HGO.out with h | h
        · simp [intOf]; omega
        · subst h
          rw [emptyOne_nil]
          simp [intOf]; omega
      have hcat : ofL [UInt8.ofNat (48 + m % 10)] ++ ofL l = ofL (UInt8.ofNat (48 + m % 10) :: l) := by
        apply ByteArray.ext; simp [ofL]
      have HNX := Lib.hid hnext
      have HME := Lib.hid hmeas
      have HCA := Lib.hid hcat
      have hll9 : (l.length : Int) ≤ 9 := by omega
      clear hnext hmeas hdn hcat
      generalize UInt8.ofNat (48 + m % 10) = d at *
      by_cases h0 : 0 < m
      · have h1 : decide ((0 : Int) < m) = true := by rw [decide_eq_true_iff]; omega
        go_wp2_with fail
        rw [HCA.out]
        exact ⟨HNX.out _ (HC.out.alloc _), HME.out⟩
      · obtain rfl : l = [] := by rcases HGO.out with h | h; exact absurd h h0; exact h
        obtain rfl : m = 0 := by omega
        clear h0 hm9 hll9 hll
        simp only [Int.natCast_zero, Int.zero_emod, Int.add_zero] at hcv
        go_wp2_with fail
        rw [HCA.out]
        exact ⟨HNX.out _ (HC.out.alloc _), HME.out⟩
end Go.Proofs.YtgpmnicmgehmbaaGreatDoor


namespace Go.Proofs.YtgpmnicmgehmbaaGreatDoor
open Go.RowKit Lamp Go.Conc
set_option maxRecDepth 100000
set_option maxHeartbeats 400000

/-- The slice reads as these rows. -/
def Rs (w : World) (v : Value) (l : List Bytes) : Prop :=
  ∃ q cap, v = .slice q l.length cap ∧ ∀ i b, l[i]? = some b → ∃ g o qu cu, q = some ⟨g, o, none⟩ ∧ w.cell? ⟨g, o + i, none⟩ = some (.slice qu b.length cu) ∧ Bs w (.slice qu b.length cu) b
theorem Rs.of_own {w : World} {v : Value} {rws : List (Value × Bytes)} (h : Own w 22 v (rws.map (·.1))) (he : ∀ r ∈ rws, Bs w r.1 r.2) : Rs w v (rws.map (·.2)) := by
  obtain ⟨q, cap, hv⟩ := h.sliceOf
  refine ⟨q, cap, by simpa using hv, fun i b hb => ?_⟩
  rw [List.getElem?_map] at hb
  obtain ⟨r, hr, rfl⟩ := Option.map_eq_some_iff.1 hb
  obtain ⟨g, c2, hv2, hc⟩ := h.at i r.1 (by rw [List.getElem?_map, hr]; rfl)
  have hbs := he r (List.mem_of_getElem? hr)
  obtain ⟨qu, cu, hu, _⟩ := id hbs
  rw [hv] at hv2
  injection hv2 with e1 _ _
  rw [hu] at hbs hc
  exact ⟨g, 0, qu, cu, e1, by rw [Nat.zero_add]; exact hc, hbs⟩
theorem same_calls {w : World} {va vb : Value} {la lb : List Bytes} (ha : Rs w va la) (hb : Rs w vb lb) (hl : la.length ≤ 1000000) :
    Calls Tryz.prog 12 #[va, vb] w fun e w' => e = .returned (.bool (decide (la = lb))) ∧ ∃ n, w' = w.drewN n := by
  obtain ⟨qa, ca, rfl, ha⟩ := ha
  obtain ⟨qb, cb, rfl, hb⟩ := hb
  by_cases hne : la.length = lb.length
  · have hn0 : ((la.length : Int) != lb.length) = false := by rw [hne]; simp
    have HA := Lib.hid ha
    have HB := Lib.hid hb
    have HNE := Lib.hid hne
    clear ha hb
    have hk9 : (la.length : Int) ≤ 1000000 := by omega
    go_enter Tryz.func12, Tryz.ntmps12
    go_wp2_with fail
    go_loopw [13] (fun i wr => ∃ k : Nat, k ≤ la.length ∧ i = .int .i64 k ∧ la.take k = lb.take k ∧ ∃ n, wr = w.drewN n)
      (fun i _ => la.length - (intOf i).toNat)
    case atStart => exact ⟨0, Nat.zero_le _, rfl, by simp, 0, rfl⟩
    case round =>
      obtain ⟨k, hk, rfl, htk, n, rfl⟩ := hrel
      by_cases hkl : k < la.length
      · obtain ⟨a, ha⟩ : ∃ a, la[k]? = some a := ⟨_, List.getElem?_eq_getElem hkl⟩
        obtain ⟨b, hb⟩ : ∃ b, lb[k]? = some b := ⟨_, List.getElem?_eq_getElem (by have := HNE.out; omega)⟩
        obtain ⟨ga, oa, pa, ka, rfl, ca0, ba⟩ := HA.out k a ha
        obtain ⟨gb, ob, pb, kb, rfl, cb0, bb⟩ := HB.out k b hb
        have ta := fun m => run_text (ba.chg ((Chg.refl No w).drewN m) (fun _ _ x => x))
        have tb := fun m => run_text (bb.chg ((Chg.refl No w).drewN m) (fun _ _ x => x))
        have HKL := Lib.hid hkl
        have HT1 := Lib.hid htk
        have HA1 := Lib.hid ha
        have HB1 := Lib.hid hb
        clear ha hb ba bb htk
        go_wp2_with fail
        go_quiet (fail)
        by_cases hab : a = b
        · subst hab
          have hx : (!a == a) = false := by simp
          simp only [hx]
          clear ta tb ca0 cb0
          go_wp2_with fail
          have hrel' : ∃ k' : Nat, k' ≤ la.length ∧ Value.int .i64 ((k : Int) + 1) = .int .i64 k' ∧ la.take k' = lb.take k' ∧ ∃ n', w.drewN (n + nq) = w.drewN n' := by
            refine ⟨k + 1, HKL.out, by go_num, ?_, n + nq, rfl⟩
            rw [List.take_add_one, List.take_add_one, HT1.out, HA1.out, HB1.out]
          have HR := Lib.hid hrel'
          clear hrel'
          go_roundw
          case rel => exact HR.out
          case measure => have := HKL.out; simp [intOf]; omega
        · have hx : (!a == b) = true := by simp [hab]
          simp only [hx]
          have hF : Hid (Ending.returned (.bool false) = .returned (.bool (decide (la = lb))) ∧ ∃ n', w.drewN (n + nq) = w.drewN n') := by
            refine ⟨?_, _, rfl⟩
            have : la ≠ lb := fun e => hab (by have h1 := HA1.out; have h2 := HB1.out; rw [e, h2] at h1; injection h1 with h1; exact h1.symm)
            simp [this]
          clear ta tb ca0 cb0
          go_wp2_with fail
          go_ret
          exact ⟨hF.out.1, n + nq, by simp only [World.drewN_drewN]⟩
      · have hke : k = la.length := by omega
        subst hke
        have he : la = lb := by
          have h1 := htk
          rw [List.take_length, HNE.out, List.take_length] at h1
          exact h1
        have hF : Hid (Ending.returned (.bool true) = .returned (.bool (decide (la = lb))) ∧ ∃ n', w.drewN n = w.drewN n') := ⟨by simp [he], _, rfl⟩
        clear he htk
        go_wp2_with fail
        go_ret
        exact hF.out
  · have hn0 : ((la.length : Int) != lb.length) = true := by simp; omega
    have hF : Hid (Ending.returned (.bool false) = .returned (.bool (decide (la = lb))) ∧ ∃ n', w = w.drewN n') := by
      have : la ≠ lb := fun e => hne (by rw [e])
      exact ⟨by simp [this], 0, rfl⟩
    clear hne ha hb
    go_enter Tryz.func12, Tryz.ntmps12
    go_wp2_with fail
    go_ret
    exact hF.out
end Go.Proofs.YtgpmnicmgehmbaaGreatDoor


namespace Lamp
theorem Def.Ok.clear {d : Def} {N : Int} (h : d.Ok N) : ({ d with found := [] } : Def).Ok N := ⟨h.m1, h.m2, h.now, h.j0, h.j1, h.o0, h.o1, h.b0, h.b1⟩
theorem Def.step_count (d : Def) (c : UInt8) : (d.step c).found.length ≤ d.found.length + 1 := by
  unfold Def.step Def.take Def.skip Def.lay Def.begin Def.outside
  repeat' split
  all_goals simp
theorem Def.feed_count (b : Bytes) : ∀ d : Def, (d.feed b).found.length ≤ d.found.length + b.length := by
  induction b with
  | nil => intro d; simp [Def.feed]
  | cons c l ih =>
    intro d
    have h1 := d.step_count c
    have h2 := ih (d.step c)
    simp only [Def.feed, List.foldl_cons, List.length_cons] at h2 ⊢
    omega
theorem Sys.Fine.many (l : List Bytes) : ∀ {s : Sys} {n : Nat}, s.Fine n → (∀ m ∈ l, m.length ≤ 65536) → (s.many l).1.Fine (n + l.length) := by
  induction l with
  | nil => intro s n h _; exact h
  | cons m l ih =>
    intro s n h hl
    have h1 := h.one m (hl m (by simp))
    show (match s.one m with | (s, none) => s.many l | (s, some o) => (s, some o)).1.Fine _
    obtain ⟨⟨S, x⟩, hx⟩ : ∃ x, s.one m = x := ⟨_, rfl⟩
    rw [hx] at h1 ⊢
    cases x with
    | none =>
      have := ih h1 (fun a ha => hl a (by simp [ha]))
      rw [show n + (m :: l).length = n + 1 + l.length from by rw [List.length_cons]; omega]
      exact this
    | some o =>
      have h9 : n + 1 ≤ n + (m :: l).length := by rw [List.length_cons]; omega
      exact ⟨h1.log.mono h9, h1.seen0, Int.le_trans h1.seen1 (by omega), h1.kept0, Int.le_trans h1.kept1 (by omega)⟩
theorem Sys.Fine.mono {s : Sys} {n m : Nat} (h : s.Fine n) (hm : n ≤ m) : s.Fine m :=
  ⟨h.log.mono hm, h.seen0, by have := h.seen1; omega, h.kept0, by have := h.kept1; omega⟩
/-- What is asked of an inbox stays so behind bytes. -/
theorem Sys.Fine.feed {s : Sys} {n : Nat} {N : Int} (h : s.Fine n) (hd : s.box.d.Ok N) (hf : s.box.d.found = []) (b : Bytes) : (s.feed b).1.Fine (n + b.length) ∧ (s.feed b).1.box.d.Ok (N + b.length) ∧ (s.feed b).1.box.d.found = [] := by
  have hl : ∀ m ∈ (s.box.d.feed b).found, m.length ≤ 65536 := fun m hm => by
    rcases Def.feed_each b hd m hm with e | e
    · rw [hf] at e; simp at e
    · exact e
  have hc := Def.feed_count b s.box.d
  rw [hf] at hc
  simp only [List.length_nil, Nat.zero_add] at hc
  have h1 := Sys.Fine.many (s := s) _ h hl
  refine ⟨?_, ?_, ?_⟩
  · rw [Sys.feed_with]
    exact Sys.Fine.mono (s := Sys.withDef _ _) ⟨h1.log, h1.seen0, h1.seen1, h1.kept0, h1.kept1⟩ (by omega)
  · rw [Sys.feed_def]
    exact (hd.feed b).clear
  · rw [Sys.feed_def]
end Lamp
namespace Go.Proofs.YtgpmnicmgehmbaaGreatDoor
open Go.RowKit Lamp Go.Conc
set_option maxRecDepth 100000
set_option maxHeartbeats 400000

theorem Own.src {w : World} {E : TypeId} {v : Value} {xs : List Value} (h : Own w E v xs) : Src w v xs := by
  rcases id h.2 with ⟨h1, h2⟩ | ⟨g, cap, cur, h1, _⟩
  · exact .inl ⟨h1, List.eq_nil_of_length_eq_zero h2⟩
  · refine .inr ⟨⟨g, 0, none⟩, cap, h1, fun j u hu => ?_⟩
    obtain ⟨g2, c2, hv, hc⟩ := h.at j u hu
    rw [h1] at hv
    injection hv with e1 _ _
    injection e1 with e1
    injection e1 with e1
    subst e1
    rw [show (⟨g, 0, none⟩ : Addr).add j = ⟨g, j, none⟩ from by unfold Addr.add; split <;> simp_all]
    exact hc
/-- append of rows to rows, perhaps of none. -/
theorem wpList_appR0 {w : World} {o : Oper} {a : Act} {Q : Exit → Act → World → Prop} {ops : Array Oper} {rest : List Oper} (hgd : o.guard = none) (s x : Operand)
    (ho : o.op = .call { callee := .builtin .append, args := #[s, x], argTypes := #[29, 29] })
    (v : Value) (xs : List Value) (hs : a.eval s = v) (hown : Own w 22 v xs) (vx : Value) (news : List Value) (hx : a.eval x = vx) (hsrc : Src w vx news) (h1 : ∀ u ∈ news, u.oneCell' = true)
    (hlen : (xs.length + news.length) * 24 ≤ 140737488355328)
    (h : ∀ q cap w', Own w' 22 (.slice q (xs.length + news.length) cap) (xs ++ news) → Chg (fun k => v.ownBlock = some k) w w' → ((Value.slice q (xs.length + news.length) cap).ownBlock = v.ownBlock ∨ (Value.slice q (xs.length + news.length) cap).ownBlock = some w.heap.size) →
      wpList Tryz.prog ops Q rest (a.put o.dst (.slice q (xs.length + news.length) cap)) w') : wpList Tryz.prog ops Q (o :: rest) a w :=
  wpList_app hgd s x 29 ho 22 (.slice none 0 0) 24 Tryz.underlying29 elem_bytes rfl v xs hs hown vx news hx hsrc h1 hlen (by simp only [maxLen]; omega) fun v' w' h2 h3 h4 _ => by
    obtain ⟨q, cap, hv⟩ := h2.sliceOf
    rw [List.length_append] at hv
    subst hv
    exact h q cap w' h2 h3 h4

structure Two (w0 W : World) (px pl pd py ql qd : Nat) (sx sy : Lamp.Sys) (v : Value) (rws : List (Value × Bytes)) (Gx Gy : List Nat) : Prop where
  x : InAt W px pl pd sx Gx
  y : InAt W py ql qd sy Gy
  own : Own W 22 v (rws.map (·.1))
  each : ∀ r ∈ rws, Bs W r.1 r.2 ∧ ∀ k, r.1.ownBlock = some k → k < W.heap.size ∧ k ∉ Gx ∧ k ∉ Gy ∧ v.ownBlock ≠ some k
  vb : ∀ k, v.ownBlock = some k → w0.heap.size ≤ k ∧ k ∉ Gx ∧ k ∉ Gy
  gx : ∀ k ∈ Gx, w0.heap.size ≤ k ∧ k ∉ Gy
  gy : ∀ k ∈ Gy, w0.heap.size ≤ k
  chg : Chg No w0 W

section
variable {w0 W W' : World} {px pl pd py ql qd : Nat} {sx sy sx' sy' : Lamp.Sys} {v : Value} {rws : List (Value × Bytes)} {Gx Gy : List Nat}

theorem Two.old (h : Two w0 W px pl pd py ql qd sx sy v rws Gx Gy) (hc : Chg No W W') : Two w0 W' px pl pd py ql qd sx sy v rws Gx Gy :=
  ⟨h.x.kept hc (fun _ _ x => x), h.y.kept hc (fun _ _ x => x), h.own.kept hc (fun _ _ x => x),
    fun r hr => ⟨(h.each r hr).1.chg hc (fun _ _ x => x), fun k hk => ⟨Nat.lt_of_lt_of_le ((h.each r hr).2 k hk).1 hc.size, ((h.each r hr).2 k hk).2⟩⟩, h.vb, h.gx, h.gy, h.chg.trans hc⟩
theorem Two.stepx (h : Two w0 W px pl pd py ql qd sx sy v rws Gx Gy) (ht : InTo W W' px pl pd Gx sx') : ∃ Gx', Two w0 W' px pl pd py ql qd sx' sy v rws Gx' Gy := by
  obtain ⟨G', h1, hc, h3⟩ := ht
  have hy := h.y.lt
  have hz := h.chg.size
  refine ⟨G', h1, h.y.kept hc (fun k hk hx => (h.gx k hx).2 hk), h.own.kept hc (fun b hb hx => (h.vb b hb).2.1 hx), fun r hr => ?_, fun k hk => ?_, fun k hk => ?_, h.gy, h.chg.then hc (fun i hi => .inr (h.gx i hi).1)⟩
  · obtain ⟨e1, e2⟩ := h.each r hr
    refine ⟨e1.chg hc (fun k hk hx => (e2 k hk).2.1 hx), fun k hk => ?_⟩
    obtain ⟨e3, e4, e5, e6⟩ := e2 k hk
    refine ⟨Nat.lt_of_lt_of_le e3 hc.size, fun hx => ?_, e5, e6⟩
    rcases h3 k hx with e | e
    · exact e4 e
    · omega
  · obtain ⟨e1, e2, e3⟩ := h.vb k hk
    refine ⟨e1, fun hx => ?_, e3⟩
    rcases h3 k hx with e | e
    · exact e2 e
    · have := h.own.lt hk; omega
  · rcases h3 k hk with e | e
    · exact h.gx k e
    · exact ⟨by omega, fun hy' => by have := hy k hy'; omega⟩
theorem Two.stepy (h : Two w0 W px pl pd py ql qd sx sy v rws Gx Gy) (ht : InTo W W' py ql qd Gy sy') : ∃ Gy', Two w0 W' px pl pd py ql qd sx sy' v rws Gx Gy' := by
  obtain ⟨G', h1, hc, h3⟩ := ht
  have hx := h.x.lt
  have hz := h.chg.size
  refine ⟨G', h.x.kept hc (fun k hk hy => (h.gx k hk).2 hy), h1, h.own.kept hc (fun b hb hy => (h.vb b hb).2.2 hy), fun r hr => ?_, fun k hk => ?_, fun k hk => ?_, fun k hk => ?_, h.chg.then hc (fun i hi => .inr (h.gy i hi))⟩
  · obtain ⟨e1, e2⟩ := h.each r hr
    refine ⟨e1.chg hc (fun k hk hy => (e2 k hk).2.2.1 hy), fun k hk => ?_⟩
    obtain ⟨e3, e4, e5, e6⟩ := e2 k hk
    refine ⟨Nat.lt_of_lt_of_le e3 hc.size, e4, fun hy => ?_, e6⟩
    rcases h3 k hy with e | e
    · exact e5 e
    · omega
  · obtain ⟨e1, e2, e3⟩ := h.vb k hk
    refine ⟨e1, e2, fun hy => ?_⟩
    rcases h3 k hy with e | e
    · exact e3 e
    · have := h.own.lt hk; omega
  · refine ⟨(h.gx k hk).1, fun hy => ?_⟩
    rcases h3 k hy with e | e
    · exact (h.gx k hk).2 e
    · have := hx k hk; omega
  · rcases h3 k hk with e | e
    · exact h.gy k e
    · omega
/-- Answers are taken of the first one, and laid behind those that were taken. -/
theorem Two.took {v2 v3 : Value} {rws2 : List (Value × Bytes)} {Gx' : List Nat} {W3 : World} (h : Two w0 W px pl pd py ql qd sx sy v rws Gx Gy) (ht : Taken W W' px pl pd sx Gx v2 rws2 Gx')
    (ho : Own W3 22 v3 (rws.map (·.1) ++ rws2.map (·.1))) (hc3 : Chg (fun k => v.ownBlock = some k) W' W3) (hb : v3.ownBlock = v.ownBlock ∨ v3.ownBlock = some W'.heap.size) :
    Two w0 W3 px pl pd py ql qd { sx with box := { sx.box with out := [] } } sy v3 (rws ++ rws2) Gx' Gy := by
  have hc := ht.chg
  have hx := h.x.lt
  have hy := h.y.lt
  have hz := h.chg.size
  have hz1 := hc.size
  have hz3 := hc3.size
  have hne : ∀ k, k < W'.heap.size → v.ownBlock ≠ some k → v3.ownBlock ≠ some k := fun k h1 h2 h3 => by
    rcases hb with e | e
    · exact h2 (e ▸ h3)
    · rw [e] at h3; injection h3 with h3; omega
  have hg : ∀ k ∈ Gx, v.ownBlock ≠ some k := fun k hk e => (h.vb k e).2.1 hk
  refine ⟨ht.box.kept hc3 (fun k hk e => hg k (ht.sub k hk) e), (h.y.kept hc (fun k hk hx => (h.gx k hx).2 hk)).kept hc3 (fun k hk e => (h.vb k e).2.2 hk), by rw [List.map_append]; exact ho, fun r hr => ?_, fun k hk => ?_, fun k hk => h.gx k (ht.sub k hk), h.gy,
    (h.chg.then hc (fun i hi => .inr (h.gx i hi).1)).then hc3 (fun i hi => .inr (h.vb i hi).1)⟩
  · rcases List.mem_append.1 hr with hr | hr
    · obtain ⟨e1, e2⟩ := h.each r hr
      refine ⟨(e1.chg hc (fun k hk hx => (e2 k hk).2.1 hx)).chg hc3 (fun k hk e => (e2 k hk).2.2.2 e), fun k hk => ?_⟩
      obtain ⟨e3, e4, e5, e6⟩ := e2 k hk
      exact ⟨by omega, fun hk' => e4 (ht.sub k hk'), e5, hne k (by omega) e6⟩
    · obtain ⟨e1, e2⟩ := ht.each r hr
      refine ⟨e1.chg hc3 (fun k hk e => hg k (e2 k hk).1 e), fun k hk => ?_⟩
      obtain ⟨e3, e4⟩ := e2 k hk
      have := hx k e3
      exact ⟨by omega, e4, (h.gx k e3).2, hne k (by omega) (hg k e3)⟩
  · rcases hb with e | e
    · rw [e] at hk
      obtain ⟨e1, e2, e3⟩ := h.vb k hk
      exact ⟨e1, fun hx => e2 (ht.sub k hx), e3⟩
    · rw [e] at hk
      injection hk with hk
      subst hk
      exact ⟨by omega, fun h1 => by have := hx _ (ht.sub _ h1); omega, fun h1 => by have := hy _ h1; omega⟩
/-- The second one's answers are taken: what both read as. -/
theorem Two.tookY {v2 : Value} {rws2 : List (Value × Bytes)} {Gy' : List Nat} (h : Two w0 W px pl pd py ql qd sx sy v rws Gx Gy) (ht : Taken W W' py ql qd sy Gy v2 rws2 Gy') :
    Rs W' v (rws.map (·.2)) ∧ Rs W' v2 (rws2.map (·.2)) ∧ InAt W' px pl pd sx Gx ∧ InAt W' py ql qd { sy with box := { sy.box with out := [] } } Gy' ∧ Chg No w0 W' := by
  have hc := ht.chg
  refine ⟨Rs.of_own (h.own.kept hc (fun b hb hy => (h.vb b hb).2.2 hy)) (fun r hr => (h.each r hr).1.chg hc (fun k hk hy => ((h.each r hr).2 k hk).2.2.1 hy)), Rs.of_own ht.own (fun r hr => (ht.each r hr).1),
    h.x.kept hc (fun k hk hy => (h.gx k hk).2 hy), ht.box, h.chg.then hc (fun i hi => .inr (h.gy i hi))⟩

theorem Two.feedx {n : Nat} {N : Int} (h : Two w0 W px pl pd py ql qd sx sy v rws Gx Gy) (hg : Glob w0) (h6 : 6 ≤ w0.heap.size) (vb : Value) (b : Bytes) (hb : Bs W vb b) (hoff : Off (In Gx) vb) (hfn : sx.Fine n) (hn : n + b.length ≤ 1000000)
    (hok : sx.box.d.Ok N) (hN : N + b.length ≤ 4611686018427387000) (hcalm : sx.disk.Calm) :
    Calls Tryz.prog 10 #[.pointer (some ⟨px, 0, none⟩), vb] W fun e w' => e = .returned (.int .i64 0) ∧ ∃ Gx', Two w0 w' px pl pd py ql qd (sx.feed b).1 sy v rws Gx' Gy := by
  refine (feedBox_calls vb b h.x (hg.no h.chg) (fun k hk => Nat.le_trans h6 (h.gx k hk).1) hb hoff hfn hn hok hN).mono ?_
  rintro e w' ⟨rfl, ht⟩
  rw [(Sys.feed_calm hcalm b).2]
  exact ⟨rfl, h.stepx ht⟩
theorem Two.feedy {n : Nat} {N : Int} (h : Two w0 W px pl pd py ql qd sx sy v rws Gx Gy) (hg : Glob w0) (h6 : 6 ≤ w0.heap.size) (vb : Value) (b : Bytes) (hb : Bs W vb b) (hoff : Off (In Gy) vb) (hfn : sy.Fine n) (hn : n + b.length ≤ 1000000)
    (hok : sy.box.d.Ok N) (hN : N + b.length ≤ 4611686018427387000) (hcalm : sy.disk.Calm) :
    Calls Tryz.prog 10 #[.pointer (some ⟨py, 0, none⟩), vb] W fun e w' => e = .returned (.int .i64 0) ∧ ∃ Gy', Two w0 w' px pl pd py ql qd sx (sy.feed b).1 v rws Gx Gy' := by
  refine (feedBox_calls vb b h.y (hg.no h.chg) (fun k hk => Nat.le_trans h6 (h.gy k hk)) hb hoff hfn hn hok hN).mono ?_
  rintro e w' ⟨rfl, ht⟩
  rw [(Sys.feed_calm hcalm b).2]
  exact ⟨rfl, h.stepy ht⟩
/-- One byte, in a new block. -/
theorem Two.feedx1 {n : Nat} {N : Int} (h : Two w0 W px pl pd py ql qd sx sy v rws Gx Gy) (hg : Glob w0) (h6 : 6 ≤ w0.heap.size) (c : UInt8) (hfn : sx.Fine n) (hn : n + 1 ≤ 1000000)
    (hok : sx.box.d.Ok N) (hN : N + 1 ≤ 4611686018427387000) (hcalm : sx.disk.Calm) :
    Calls Tryz.prog 10 #[.pointer (some ⟨px, 0, none⟩), .slice (some ⟨W.heap.size, 0, none⟩) 1 1] (W.alloc (.cells #[.int .u8 c.toNat] 5)) fun e w' => e = .returned (.int .i64 0) ∧ ∃ Gx', Two w0 w' px pl pd py ql qd (sx.feed [c]).1 sy v rws Gx' Gy :=
  (h.old ((Chg.refl No W).alloc _)).feedx hg h6 _ [c] (cells_bs (l := [c]) (heap_alloc_new W _) rfl (show 1 ≤ _ by decide)) (fun k hk hG => by simp [Value.ownBlock] at hk; have := h.x.lt k hG; omega) hfn hn hok hN hcalm
theorem Two.feedy1 {n : Nat} {N : Int} (h : Two w0 W px pl pd py ql qd sx sy v rws Gx Gy) (hg : Glob w0) (h6 : 6 ≤ w0.heap.size) (c : UInt8) (hfn : sy.Fine n) (hn : n + 1 ≤ 1000000)
    (hok : sy.box.d.Ok N) (hN : N + 1 ≤ 4611686018427387000) (hcalm : sy.disk.Calm) :
    Calls Tryz.prog 10 #[.pointer (some ⟨py, 0, none⟩), .slice (some ⟨W.heap.size, 0, none⟩) 1 1] (W.alloc (.cells #[.int .u8 c.toNat] 5)) fun e w' => e = .returned (.int .i64 0) ∧ ∃ Gy', Two w0 w' px pl pd py ql qd sx (sy.feed [c]).1 v rws Gx Gy' :=
  (h.old ((Chg.refl No W).alloc _)).feedy hg h6 _ [c] (cells_bs (l := [c]) (heap_alloc_new W _) rfl (show 1 ≤ _ by decide)) (fun k hk hG => by simp [Value.ownBlock] at hk; have := h.y.lt k hG; omega) hfn hn hok hN hcalm
/-- Two new ones. -/
theorem Two.new {w1 w2 : World} {G H : List Nat} (hc0 : Chg No w0 w1) (hx : InAt w1 px pl pd sx G) (hG : ∀ k ∈ G, w0.heap.size ≤ k) (hc : Chg No w1 w2) (hy : InAt w2 py ql qd sy H) (hH : ∀ k ∈ H, w1.heap.size ≤ k) :
    Two w0 w2 px pl pd py ql qd sx sy (.slice none 0 0) [] G H :=
  ⟨hx.kept hc (fun _ _ x => x), hy, Own.nil _ _, fun r hr => by simp at hr, fun k hk => by simp [Value.ownBlock] at hk, fun k hk => ⟨hG k hk, fun h => by have := hH k h; have := hx.lt k hk; omega⟩, fun k hk => Nat.le_trans hc0.size (hH k hk), hc0.trans hc⟩
end
end Go.Proofs.YtgpmnicmgehmbaaGreatDoor
