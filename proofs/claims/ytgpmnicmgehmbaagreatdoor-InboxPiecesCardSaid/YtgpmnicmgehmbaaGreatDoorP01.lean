/- The law: are they the same rows of bytes?
   Plain laws of an inbox: a disk that isn't armed loses nothing; answers that are taken whenever; bytes in pieces.
   Two inboxes side by side, and the answers that were taken of the first one.
   The law: InboxTakes. -/
import Derived.Test.YtgpmnicmgehmbaaGreatDoorB06
import Derived.Test.YtgpmnicmgehmbaaGreatDoorB03
import Derived.Test.YtgpmnicmgehmbaaGreatDoorB12
import Derived.Test.YtgpmnicmgehmbaaGreatDoorB10

namespace Go.Proofs.YtgpmnicmgehmbaaGreatDoor
open Go.RowKit Lamp Go.Conc
set_option maxRecDepth 100000
set_option maxHeartbeats 400000

/-- The slice reads as these rows. -/
def Rs (w : World) (v : Value) (l : List Bytes) : Prop :=
  ∃ q cap, v = .slice q l.length cap ∧ ∀ i b, l[i]? = some b → ∃ g o qu cu, q = some ⟨g, o, none⟩ ∧ w.cell? ⟨g, o + i, none⟩ = some (.slice qu b.length cu) ∧ Bs w (.slice qu b.length cu) b
theorem Rs.of_own {w : World} {v : Value} {rws : List (Value × Bytes)} (h : Own w 22 v (rws.map (·.1))) (he : ∀ r ∈ rws, Bs w r.1 r.2) : Rs w v (rws.map (·.2)) := by
  obtain ⟨q, cap, hv⟩ := h.sliceOf
  refine ⟨q, cap, by simpa using hv, fun i b hb => ?_⟩
  rw [List.getElem?_map] at hb
  obtain ⟨r, hr, rfl⟩ := Option.map_eq_some_iff.1 hb
  obtain ⟨g, c2, hv2, hc⟩ := h.at i r.1 (by rw [List.getElem?_map, hr]; rfl)
  have hbs := he r (List.mem_of_getElem? hr)
  obtain ⟨qu, cu, hu, _⟩ := id hbs
  rw [hv] at hv2
  injection hv2 with e1 _ _
  rw [hu] at hbs hc
  exact ⟨g, 0, qu, cu, e1, by rw [Nat.zero_add]; exact hc, hbs⟩
theorem same_calls {w : World} {va vb : Value} {la lb : List Bytes} (ha : Rs w va la) (hb : Rs w vb lb) (hl : la.length ≤ 1000000) :
    Calls Tryz.prog 12 #[va, vb] w fun e w' => e = .returned (.bool (decide (la = lb))) ∧ ∃ n, w' = w.drewN n := by
  obtain ⟨qa, ca, rfl, ha⟩ := ha
  obtain ⟨qb, cb, rfl, hb⟩ := hb
  by_cases hne : la.length = lb.length
  · have hn0 : ((la.length : Int) != lb.length) = false := by rw [hne]; simp
    have HA := Lib.hid ha
    have HB := Lib.hid hb
    have HNE := Lib.hid hne
    clear ha hb
    have hk9 : (la.length : Int) ≤ 1000000 := by omega
    go_enter Tryz.func12, Tryz.ntmps12
    go_wp2_with fail
    go_loopw [13] (fun i wr => ∃ k : Nat, k ≤ la.length ∧ i = .int .i64 k ∧ la.take k = lb.take k ∧ ∃ n, wr = w.drewN n)
      (fun i _ => la.length - (intOf i).toNat)
    case atStart => exact ⟨0, Nat.zero_le _, rfl, by simp, 0, rfl⟩
    case round =>
      obtain ⟨k, hk, rfl, htk, n, rfl⟩ := hrel
      by_cases hkl : k < la.length
      · obtain ⟨a, ha⟩ : ∃ a, la[k]? = some a := ⟨_, List.getElem?_eq_getElem hkl⟩
        obtain ⟨b, hb⟩ : ∃ b, lb[k]? = some b := ⟨_, List.getElem?_eq_getElem (by have := HNE.out; omega)⟩
        obtain ⟨ga, oa, pa, ka, rfl, ca0, ba⟩ := HA.out k a ha
        obtain ⟨gb, ob, pb, kb, rfl, cb0, bb⟩ := HB.out k b hb
        have ta := fun m => run_text (ba.chg ((Chg.refl No w).drewN m) (fun _ _ x => x))
        have tb := fun m => run_text (bb.chg ((Chg.refl No w).drewN m) (fun _ _ x => x))
        have HKL := Lib.hid hkl
        have HT1 := Lib.hid htk
        have HA1 := Lib.hid ha
        have HB1 := Lib.hid hb
        clear ha hb ba bb htk
        go_wp2_with fail
        go_quiet (fail)
        by_cases hab : a = b
        · subst hab
          have hx : (!a == a) = false := by simp
          simp only [hx]
          clear ta tb ca0 cb0
          go_wp2_with fail
          have hrel' : ∃ k' : Nat, k' ≤ la.length ∧ Value.int .i64 ((k : Int) + 1) = .int .i64 k' ∧ la.take k' = lb.take k' ∧ ∃ n', w.drewN (n + nq) = w.drewN n' := by
            refine ⟨k + 1, HKL.out, by go_num, ?_, n + nq, rfl⟩
            rw [List.take_add_one, List.take_add_one, HT1.out, HA1.out, HB1.out]
          have HR := Lib.hid hrel'
          clear hrel'
          go_roundw
          case rel => exact HR.out
          case measure => have := HKL.out; simp [intOf]; omega
        · have hx : (!a == b) = true := by simp [hab]
          simp only [hx]
          have hF : Hid (Ending.returned (.bool false) = .returned (.bool (decide (la = lb))) ∧ ∃ n', w.drewN (n + nq) = w.drewN n') := by
            refine ⟨?_, _, rfl⟩
            have : la ≠ lb := fun e => hab (by have h1 := HA1.out; have h2 := HB1.out; rw [e, h2] at h1; injection h1 with h1; exact h1.symm)
            simp [this]
          clear ta tb ca0 cb0
          go_wp2_with fail
          go_ret
          exact ⟨hF.out.1, n + nq, by simp only [World.drewN_drewN]⟩
      · have hke : k = la.length := by omega
        subst hke
        have he : la = lb := by
          have h1 := htk
          rw [List.take_length, HNE.out, List.take_length] at h1
          exact h1
        have hF : Hid (Ending.returned (.bool true) = .returned (.bool (decide (la = lb))) ∧ ∃ n', w.drewN n = w.drewN n') := ⟨by simp [he], _, rfl⟩
        clear he htk
        go_wp2_with fail
        go_ret
        exact hF.out
  · have hn0 : ((la.length : Int) != lb.length) = true := by simp; omega
    have hF : Hid (Ending.returned (.bool false) = .returned (.bool (decide (la = lb))) ∧ ∃ n', w = w.drewN n') := by
      have : la ≠ lb := fun e => hne (by rw [e])
      exact ⟨by simp [this], 0, rfl⟩
    clear hne ha hb
    go_enter Tryz.func12, Tryz.ntmps12
    go_wp2_with fail
    go_ret
    exact hF.out
end Go.Proofs.YtgpmnicmgehmbaaGreatDoor


namespace Lamp

/-- The power doesn't go. -/
structure Disk.Calm (d : Disk) : Prop where
  arm : d.arm = 0
  ops : 0 ≤ d.ops
theorem Disk.Calm.gone {d : Disk} (h : d.Calm) : d.begin.gone = false := by
  have h1 := h.arm
  have h2 := h.ops
  simp only [Disk.gone, Disk.begin, h1]
  exact beq_eq_false_iff_ne.2 (by omega)
theorem Disk.Calm.begin {d : Disk} (h : d.Calm) : d.begin.Calm := ⟨h.arm, by have := h.ops; show 0 ≤ d.ops + 1; omega⟩
theorem Disk.Calm.change {d : Disk} (h : d.Calm) {α : Type} {f : Disk → Disk} (a : α) (hf : (f d.begin).Calm) : (d.change f a).1.Calm ∧ (d.change f a).2 = .ok a := by
  unfold Disk.change
  simp only [h.gone, true_or, if_true, Bool.false_eq_true, if_false]
  exact ⟨hf, trivial⟩
theorem Disk.Calm.append {d : Disk} (h : d.Calm) (name b : Bytes) : (d.append name b).1.Calm ∧ ∃ r, (d.append name b).2 = .ok r := by
  unfold Disk.append
  split
  · exact ⟨h, _, rfl⟩
  · simp only [h.gone, Bool.false_eq_true, if_false]
    exact ⟨⟨h.begin.arm, h.begin.ops⟩, _, rfl⟩
theorem Disk.Calm.truncate {d : Disk} (h : d.Calm) (name : Bytes) (n : Int) : (d.truncate name n).1.Calm ∧ ∃ r, (d.truncate name n).2 = .ok r := by
  unfold Disk.truncate
  split
  · exact ⟨h, _, rfl⟩
  · split
    · exact ⟨h, _, rfl⟩
    · exact (fun t => ⟨t.1, _, t.2⟩) (h.change _ ⟨h.begin.arm, h.begin.ops⟩)
theorem Disk.Calm.sync {d : Disk} (h : d.Calm) (name : Bytes) : (d.sync name).1.Calm ∧ ∃ r, (d.sync name).2 = .ok r := by
  unfold Disk.sync
  split
  · exact ⟨h, _, rfl⟩
  · rename_i f hf
    have h' : ({ d with fail := max 0 (d.fail - 1) } : Disk).Calm := ⟨h.arm, h.ops⟩
    refine (fun t => ⟨t.1, _, t.2⟩) (h'.change _ ?_)
    split
    · exact ⟨h'.begin.arm, h'.begin.ops⟩
    · exact ⟨h'.begin.arm, h'.begin.ops⟩

theorem Log.add_calm {d : Disk} (h : d.Calm) (g : Log) (b : Bytes) : (Log.add d g b).1.Calm ∧ ∃ e, (Log.add d g b).2.2 = .ok e := by
  unfold Log.add
  split
  · exact ⟨h, _, rfl⟩
  · simp only []
    have hcut : ∀ (D : Disk) (e : Int), D.Calm → (match D.truncate g.name g.good with
        | (d, .ok _) => (d, g, Res.ok e)
        | (d, .lost o) => (d, g, .lost o) : Disk × Log × Res Int).1.Calm ∧ ∃ e', (match D.truncate g.name g.good with
        | (d, .ok _) => (d, g, Res.ok e)
        | (d, .lost o) => (d, g, .lost o) : Disk × Log × Res Int).2.2 = .ok e' := by
      intro D e hD
      obtain ⟨h1, r, h2⟩ := hD.truncate g.name g.good
      obtain ⟨⟨D2, r2⟩, hx⟩ : ∃ x, D.truncate g.name g.good = x := ⟨_, rfl⟩
      rw [hx] at h1 h2 ⊢
      dsimp only at h1 h2
      subst h2
      exact ⟨h1, _, rfl⟩
    obtain ⟨h1, r, h2⟩ := h.append g.name (entryBytes b)
    obtain ⟨⟨D1, r1⟩, hx⟩ : ∃ x, d.append g.name (entryBytes b) = x := ⟨_, rfl⟩
    rw [hx] at h1 h2 ⊢
    dsimp only at h1 h2
    subst h2
    obtain ⟨k, e⟩ := r
    dsimp only
    split
    · exact hcut D1 e h1
    · obtain ⟨h3, r3, h4⟩ := h1.sync g.name
      obtain ⟨⟨D2, r2⟩, hx2⟩ : ∃ x, D1.sync g.name = x := ⟨_, rfl⟩
      rw [hx2] at h3 h4 ⊢
      dsimp only at h3 h4
      subst h4
      dsimp only
      split
      · exact hcut D2 r3 h3
      · exact ⟨h3, _, rfl⟩

theorem Sys.one_calm {s : Sys} (h : s.disk.Calm) (m : Bytes) : (s.one m).1.disk.Calm ∧ (s.one m).2 = none := by
  rw [Sys.one_eq]
  split
  · obtain ⟨h1, e, h2⟩ := Log.add_calm h s.log m
    obtain ⟨⟨D, g, r⟩, hx⟩ : ∃ x, Log.add s.disk s.log m = x := ⟨_, rfl⟩
    rw [hx] at h1 h2 ⊢
    dsimp only at h1 h2
    subst h2
    dsimp only
    exact ⟨by rw [(Sys.answer_log _ _ _).1]; exact h1, rfl⟩
  · exact ⟨by rw [(Sys.answer_log _ _ _).1]; exact h, rfl⟩
theorem Sys.many_cons {s : Sys} (h : s.disk.Calm) (m : Bytes) (l : List Bytes) : s.many (m :: l) = (s.one m).1.many l := by
  obtain ⟨h1, h2⟩ := Sys.one_calm h m
  show (match s.one m with | (s, none) => s.many l | (s, some o) => (s, some o)) = _
  obtain ⟨⟨S, x⟩, hx⟩ : ∃ x, s.one m = x := ⟨_, rfl⟩
  rw [hx] at h1 h2 ⊢
  dsimp only at h2
  subst h2
  rfl
theorem Sys.many_calm (l : List Bytes) : ∀ {s : Sys}, s.disk.Calm → (s.many l).1.disk.Calm ∧ (s.many l).2 = none := by
  induction l with
  | nil => intro s h; exact ⟨h, rfl⟩
  | cons m l ih => intro s h; rw [Sys.many_cons h]; exact ih (Sys.one_calm h m).1
theorem Sys.feed_calm {s : Sys} (h : s.disk.Calm) (b : Bytes) : (s.feed b).1.disk.Calm ∧ (s.feed b).2 = none := Sys.many_calm _ h
theorem Sys.many_app {s : Sys} (h : s.disk.Calm) (l r : List Bytes) : s.many (l ++ r) = ((s.many l).1).many r := by
  induction l generalizing s with
  | nil => rfl
  | cons m l ih => rw [List.cons_append, Sys.many_cons h, Sys.many_cons h]; exact ih (Sys.one_calm h m).1

/-! ### answers that were taken -/
/-- The inbox with answers ahead of its own. -/
def Sys.ahead (s : Sys) (p : List Bytes) : Sys := { s with box := { s.box with out := p ++ s.box.out } }
theorem Sys.answer_ahead (s : Sys) (p : List Bytes) (m : Bytes) (k : Bool) : (s.ahead p).answer m k = (s.answer m k).ahead p := by
  unfold Sys.answer Sys.ahead
  simp only []
  cases k <;> (split <;> simp)
theorem Sys.one_ahead (s : Sys) (p : List Bytes) (m : Bytes) : (s.ahead p).one m = ((s.one m).1.ahead p, (s.one m).2) := by
  rw [Sys.one_eq, Sys.one_eq]
  split
  · have h0 : Log.add (s.ahead p).disk (s.ahead p).log m = Log.add s.disk s.log m := rfl
    rw [h0]
    obtain ⟨⟨D, g, r⟩, hx⟩ : ∃ x, Log.add s.disk s.log m = x := ⟨_, rfl⟩
    rw [hx]
    cases r with
    | ok e => exact congrArg (·, none) (Sys.answer_ahead ({ disk := D, log := g, box := s.box } : Sys) p m (e == 0))
    | lost o => rfl
  · exact congrArg (·, none) (Sys.answer_ahead _ p m _)
theorem Sys.many_ahead (p : List Bytes) (l : List Bytes) : ∀ (s : Sys), (s.ahead p).many l = ((s.many l).1.ahead p, (s.many l).2) := by
  induction l with
  | nil => intro s; rfl
  | cons m l ih =>
    intro s
    show (match (s.ahead p).one m with | (s, none) => s.many l | (s, some o) => (s, some o)) = ((match s.one m with | (s, none) => s.many l | (s, some o) => (s, some o)).1.ahead p, (match s.one m with | (s, none) => s.many l | (s, some o) => (s, some o)).2)
    rw [Sys.one_ahead]
    obtain ⟨⟨S, x⟩, hx⟩ : ∃ x, s.one m = x := ⟨_, rfl⟩
    rw [hx]
    cases x with
    | none => exact ih S
    | some o => rfl
theorem Sys.feed_ahead (s : Sys) (p : List Bytes) (b : Bytes) : (s.ahead p).feed b = ((s.feed b).1.ahead p, (s.feed b).2) :=
  Sys.many_ahead p (s.box.d.feed b).found { s with box := { s.box with d := { s.box.d.feed b with found := [] } } }
/-- As many were answered as there are answers, and some that were taken. -/
def Sys.Told (s : Sys) (c : Nat) : Prop := s.box.seen = ((c + s.box.out.length : Nat) : Int)
theorem Sys.Told.answer {s : Sys} {c : Nat} (h : s.Told c) (m : Bytes) (k : Bool) : (s.answer m k).Told c := by
  unfold Sys.Told at h ⊢
  unfold Sys.answer
  simp only []
  cases k <;> (split <;> simp only [Bool.false_eq_true, if_false, if_true, List.length_append, List.length_cons, List.length_nil] <;> omega)
theorem Sys.Told.one {s : Sys} {c : Nat} (h : s.Told c) (m : Bytes) : (s.one m).1.Told c := by
  rw [Sys.one_eq]
  split
  · split
    · rename_i D g e _
      exact Sys.Told.answer (s := ({ disk := D, log := g, box := s.box } : Sys)) h m _
    · exact h
  · exact h.answer m false
theorem Sys.Told.many {c : Nat} (l : List Bytes) : ∀ {s : Sys}, s.Told c → (s.many l).1.Told c := by
  induction l with
  | nil => intro s h; exact h
  | cons m l ih =>
    intro s h
    have h1 := h.one m
    show (match s.one m with | (s, none) => s.many l | (s, some o) => (s, some o)).1.Told c
    obtain ⟨⟨S, x⟩, hx⟩ : ∃ x, s.one m = x := ⟨_, rfl⟩
    rw [hx] at h1 ⊢
    cases x with
    | none => exact ih h1
    | some o => exact h1
theorem Sys.Told.feed {s : Sys} {c : Nat} (h : s.Told c) (b : Bytes) : (s.feed b).1.Told c := Sys.Told.many (s := { s with box := { s.box with d := { s.box.d.feed b with found := [] } } }) _ h

/-! ### bytes in pieces -/
theorem Def.step_found (d : Def) (f : List Bytes) (c : UInt8) : ({ d with found := f ++ d.found } : Def).step c = { d.step c with found := f ++ (d.step c).found } := by
  unfold Def.step Def.take Def.skip Def.lay Def.begin Def.outside
  repeat' split
  all_goals simp_all
theorem Def.feed_found (f : List Bytes) (b : Bytes) : ∀ (d : Def), ({ d with found := f ++ d.found } : Def).feed b = { d.feed b with found := f ++ (d.feed b).found } := by
  induction b with
  | nil => intro d; rfl
  | cons c l ih =>
    intro d
    show (({ d with found := f ++ d.found } : Def).step c).feed l = _
    rw [Def.step_found]
    exact ih (d.step c)
theorem Def.feed_app (d : Def) (b c : Bytes) : d.feed (b ++ c) = (d.feed b).feed c := by simp [Def.feed]
/-- The inbox with another deframer. -/
def Sys.withDef (s : Sys) (d : Def) : Sys := { s with box := { s.box with d := d } }
theorem Sys.answer_def (s : Sys) (d : Def) (m : Bytes) (k : Bool) : (s.withDef d).answer m k = (s.answer m k).withDef d := by
  unfold Sys.answer Sys.withDef
  simp only []
  cases k <;> (split <;> simp)
theorem Sys.one_def (s : Sys) (d : Def) (m : Bytes) : (s.withDef d).one m = ((s.one m).1.withDef d, (s.one m).2) := by
  rw [Sys.one_eq, Sys.one_eq]
  split
  · have h0 : Log.add (s.withDef d).disk (s.withDef d).log m = Log.add s.disk s.log m := rfl
    rw [h0]
    obtain ⟨⟨D, g, r⟩, hx⟩ : ∃ x, Log.add s.disk s.log m = x := ⟨_, rfl⟩
    rw [hx]
    cases r with
    | ok e => exact congrArg (·, none) (Sys.answer_def ({ disk := D, log := g, box := s.box } : Sys) d m (e == 0))
    | lost o => rfl
  · exact congrArg (·, none) (Sys.answer_def _ d m _)
theorem Sys.many_def (d : Def) (l : List Bytes) : ∀ (s : Sys), (s.withDef d).many l = ((s.many l).1.withDef d, (s.many l).2) := by
  induction l with
  | nil => intro s; rfl
  | cons m l ih =>
    intro s
    show (match (s.withDef d).one m with | (s, none) => s.many l | (s, some o) => (s, some o)) = ((match s.one m with | (s, none) => s.many l | (s, some o) => (s, some o)).1.withDef d, (match s.one m with | (s, none) => s.many l | (s, some o) => (s, some o)).2)
    rw [Sys.one_def]
    obtain ⟨⟨S, x⟩, hx⟩ : ∃ x, s.one m = x := ⟨_, rfl⟩
    rw [hx]
    cases x with
    | none => exact ih S
    | some o => rfl
theorem Sys.feed_with (s : Sys) (b : Bytes) : s.feed b = (((s.many (s.box.d.feed b).found).1).withDef { s.box.d.feed b with found := [] }, (s.many (s.box.d.feed b).found).2) :=
  Sys.many_def { s.box.d.feed b with found := [] } (s.box.d.feed b).found s
theorem Sys.withDef_same {s : Sys} {d e : Def} : (s.withDef d).withDef e = s.withDef e := rfl
theorem Sys.feed_def {s : Sys} (b : Bytes) : (s.feed b).1.box.d = { s.box.d.feed b with found := [] } := by rw [Sys.feed_with]; rfl
/-- Two pieces are one. -/
theorem Sys.feed_app {s : Sys} (h : s.disk.Calm) (b c : Bytes) : s.feed (b ++ c) = ((s.feed b).1).feed c := by
  have hd : (s.box.d.feed (b ++ c)) = { ({ s.box.d.feed b with found := [] } : Def).feed c with found := (s.box.d.feed b).found ++ (({ s.box.d.feed b with found := [] } : Def).feed c).found } := by
    rw [Def.feed_app, ← Def.feed_found]
    simp
  have hm : ∀ S : Sys, S.many (({ s.box.d.feed b with found := [] } : Def).feed c).found = ((S.many (({ s.box.d.feed b with found := [] } : Def).feed c).found).1, (S.many (({ s.box.d.feed b with found := [] } : Def).feed c).found).2) := fun _ => rfl
  rw [Sys.feed_with s (b ++ c), Sys.feed_with ((s.feed b).1) c, Sys.feed_def, hd]
  simp only []
  rw [Sys.many_app h]
  have e : (s.feed b).1 = ((s.many (s.box.d.feed b).found).1).withDef { s.box.d.feed b with found := [] } := by rw [Sys.feed_with]
  rw [e, Sys.many_def]
  rfl
end Lamp


namespace Lamp
theorem Def.Ok.clear {d : Def} {N : Int} (h : d.Ok N) : ({ d with found := [] } : Def).Ok N := ⟨h.m1, h.m2, h.now, h.j0, h.j1, h.o0, h.o1, h.b0, h.b1⟩
theorem Def.step_count (d : Def) (c : UInt8) : (d.step c).found.length ≤ d.found.length + 1 := by
  unfold Def.step Def.take Def.skip Def.lay Def.begin Def.outside
  repeat' split
  all_goals simp
theorem Def.feed_count (b : Bytes) : ∀ d : Def, (d.feed b).found.length ≤ d.found.length + b.length := by
  induction b with
  | nil => intro d; simp [Def.feed]
  | cons c l ih =>
    intro d
    have h1 := d.step_count c
    have h2 := ih (d.step c)
    simp only [Def.feed, List.foldl_cons, List.length_cons] at h2 ⊢
    omega
theorem Sys.Fine.many (l : List Bytes) : ∀ {s : Sys} {n : Nat}, s.Fine n → (∀ m ∈ l, m.length ≤ 65536) → (s.many l).1.Fine (n + l.length) := by
  induction l with
  | nil => intro s n h _; exact h
  | cons m l ih =>
    intro s n h hl
    have h1 := h.one m (hl m (by simp))
    show (match s.one m with | (s, none) => s.many l | (s, some o) => (s, some o)).1.Fine _
    obtain ⟨⟨S, x⟩, hx⟩ : ∃ x, s.one m = x := ⟨_, rfl⟩
    rw [hx] at h1 ⊢
    cases x with
    | none =>
      have := ih h1 (fun a ha => hl a (by simp [ha]))
      rw [show n + (m :: l).length = n + 1 + l.length from by rw [List.length_cons]; omega]
      exact this
    | some o =>
      have h9 : n + 1 ≤ n + (m :: l).length := by rw [List.length_cons]; omega
      exact ⟨h1.log.mono h9, h1.seen0, Int.le_trans h1.seen1 (by omega), h1.kept0, Int.le_trans h1.kept1 (by omega)⟩
theorem Sys.Fine.mono {s : Sys} {n m : Nat} (h : s.Fine n) (hm : n ≤ m) : s.Fine m :=
  ⟨h.log.mono hm, h.seen0, by have := h.seen1; omega, h.kept0, by have := h.kept1; omega⟩
/-- What is asked of an inbox stays so behind bytes. -/
theorem Sys.Fine.feed {s : Sys} {n : Nat} {N : Int} (h : s.Fine n) (hd : s.box.d.Ok N) (hf : s.box.d.found = []) (b : Bytes) : (s.feed b).1.Fine (n + b.length) ∧ (s.feed b).1.box.d.Ok (N + b.length) ∧ (s.feed b).1.box.d.found = [] := by
  have hl : ∀ m ∈ (s.box.d.feed b).found, m.length ≤ 65536 := fun m hm => by
    rcases Def.feed_each b hd m hm with e | e
    · rw [hf] at e; simp at e
    · exact e
  have hc := Def.feed_count b s.box.d
  rw [hf] at hc
  simp only [List.length_nil, Nat.zero_add] at hc
  have h1 := Sys.Fine.many (s := s) _ h hl
  refine ⟨?_, ?_, ?_⟩
  · rw [Sys.feed_with]
    exact Sys.Fine.mono (s := Sys.withDef _ _) ⟨h1.log, h1.seen0, h1.seen1, h1.kept0, h1.kept1⟩ (by omega)
  · rw [Sys.feed_def]
    exact (hd.feed b).clear
  · rw [Sys.feed_def]
end Lamp
namespace Go.Proofs.YtgpmnicmgehmbaaGreatDoor
open Go.RowKit Lamp Go.Conc
set_option maxRecDepth 100000
set_option maxHeartbeats 400000

theorem Own.src {w : World} {E : TypeId} {v : Value} {xs : List Value} (h : Own w E v xs) : Src w v xs := by
  rcases id h.2 with ⟨h1, h2⟩ | ⟨g, cap, cur, h1, _⟩
  · exact .inl ⟨h1, List.eq_nil_of_length_eq_zero h2⟩
  · refine .inr ⟨⟨g, 0, none⟩, cap, h1, fun j u hu => ?_⟩
    obtain ⟨g2, c2, hv, hc⟩ := h.at j u hu
    rw [h1] at hv
    injection hv with e1 _ _
    injection e1 with e1
    injection e1 with e1
    subst e1
    rw [show (⟨g, 0, none⟩ : Addr).add j = ⟨g, j, none⟩ from by unfold Addr.add; split <;> simp_all]
    exact hc
/-- append of rows to rows, perhaps of none. -/
theorem wpList_appR0 {w : World} {o : Oper} {a : Act} {Q : Exit → Act → World → Prop} {ops : Array Oper} {rest : List Oper} (hgd : o.guard = none) (s x : Operand)
    (ho : o.op = .call { callee := .builtin .append, args := #[s, x], argTypes := #[29, 29] })
    (v : Value) (xs : List Value) (hs : a.eval s = v) (hown : Own w 22 v xs) (vx : Value) (news : List Value) (hx : a.eval x = vx) (hsrc : Src w vx news) (h1 : ∀ u ∈ news, u.oneCell' = true)
    (hlen : (xs.length + news.length) * 24 ≤ 140737488355328)
    (h : ∀ q cap w', Own w' 22 (.slice q (xs.length + news.length) cap) (xs ++ news) → Chg (fun k => v.ownBlock = some k) w w' → ((Value.slice q (xs.length + news.length) cap).ownBlock = v.ownBlock ∨ (Value.slice q (xs.length + news.length) cap).ownBlock = some w.heap.size) →
      wpList Tryz.prog ops Q rest (a.put o.dst (.slice q (xs.length + news.length) cap)) w') : wpList Tryz.prog ops Q (o :: rest) a w :=
  wpList_app hgd s x 29 ho 22 (.slice none 0 0) 24 Tryz.underlying29 elem_bytes rfl v xs hs hown vx news hx hsrc h1 hlen (by simp only [maxLen]; omega) fun v' w' h2 h3 h4 _ => by
    obtain ⟨q, cap, hv⟩ := h2.sliceOf
    rw [List.length_append] at hv
    subst hv
    exact h q cap w' h2 h3 h4

structure Two (w0 W : World) (px pl pd py ql qd : Nat) (sx sy : Lamp.Sys) (v : Value) (rws : List (Value × Bytes)) (Gx Gy : List Nat) : Prop where
  x : InAt W px pl pd sx Gx
  y : InAt W py ql qd sy Gy
  own : Own W 22 v (rws.map (·.1))
  each : ∀ r ∈ rws, Bs W r.1 r.2 ∧ ∀ k, r.1.ownBlock = some k → k < W.heap.size ∧ k ∉ Gx ∧ k ∉ Gy ∧ v.ownBlock ≠ some k
  vb : ∀ k, v.ownBlock = some k → w0.heap.size ≤ k ∧ k ∉ Gx ∧ k ∉ Gy
  gx : ∀ k ∈ Gx, w0.heap.size ≤ k ∧ k ∉ Gy
  gy : ∀ k ∈ Gy, w0.heap.size ≤ k
  chg : Chg No w0 W

section
variable {w0 W W' : World} {px pl pd py ql qd : Nat} {sx sy sx' sy' : Lamp.Sys} {v : Value} {rws : List (Value × Bytes)} {Gx Gy : List Nat}

theorem Two.old (h : Two w0 W px pl pd py ql qd sx sy v rws Gx Gy) (hc : Chg No W W') : Two w0 W' px pl pd py ql qd sx sy v rws Gx Gy :=
  ⟨h.x.kept hc (fun _ _ x => x), h.y.kept hc (fun _ _ x => x), h.own.kept hc (fun _ _ x => x),
    fun r hr => ⟨(h.each r hr).1.chg hc (fun _ _ x => x), fun k hk => ⟨Nat.lt_of_lt_of_le ((h.each r hr).2 k hk).1 hc.size, ((h.each r hr).2 k hk).2⟩⟩, h.vb, h.gx, h.gy, h.chg.trans hc⟩
theorem Two.stepx (h : Two w0 W px pl pd py ql qd sx sy v rws Gx Gy) (ht : InTo W W' px pl pd Gx sx') : ∃ Gx', Two w0 W' px pl pd py ql qd sx' sy v rws Gx' Gy := by
  obtain ⟨G', h1, hc, h3⟩ := ht
  have hy := h.y.lt
  have hz := h.chg.size
  refine ⟨G', h1, h.y.kept hc (fun k hk hx => (h.gx k hx).2 hk), h.own.kept hc (fun b hb hx => (h.vb b hb).2.1 hx), fun r hr => ?_, fun k hk => ?_, fun k hk => ?_, h.gy, h.chg.then hc (fun i hi => .inr (h.gx i hi).1)⟩
  · obtain ⟨e1, e2⟩ := h.each r hr
    refine ⟨e1.chg hc (fun k hk hx => (e2 k hk).2.1 hx), fun k hk => ?_⟩
    obtain ⟨e3, e4, e5, e6⟩ := e2 k hk
    refine ⟨Nat.lt_of_lt_of_le e3 hc.size, fun hx => ?_, e5, e6⟩
    rcases h3 k hx with e | e
    · exact e4 e
    · omega
  · obtain ⟨e1, e2, e3⟩ := h.vb k hk
    refine ⟨e1, fun hx => ?_, e3⟩
    rcases h3 k hx with e | e
    · exact e2 e
    · have := h.own.lt hk; omega
  · rcases h3 k hk with e | e
    · exact h.gx k e
    · exact ⟨by omega, fun hy' => by have := hy k hy'; omega⟩
theorem Two.stepy (h : Two w0 W px pl pd py ql qd sx sy v rws Gx Gy) (ht : InTo W W' py ql qd Gy sy') : ∃ Gy', Two w0 W' px pl pd py ql qd sx sy' v rws Gx Gy' := by
  obtain ⟨G', h1, hc, h3⟩ := ht
  have hx := h.x.lt
  have hz := h.chg.size
  refine ⟨G', h.x.kept hc (fun k hk hy => (h.gx k hk).2 hy), h1, h.own.kept hc (fun b hb hy => (h.vb b hb).2.2 hy), fun r hr => ?_, fun k hk => ?_, fun k hk => ?_, fun k hk => ?_, h.chg.then hc (fun i hi => .inr (h.gy i hi))⟩
  · obtain ⟨e1, e2⟩ := h.each r hr
    refine ⟨e1.chg hc (fun k hk hy => (e2 k hk).2.2.1 hy), fun k hk => ?_⟩
    obtain ⟨e3, e4, e5, e6⟩ := e2 k hk
    refine ⟨Nat.lt_of_lt_of_le e3 hc.size, e4, fun hy => ?_, e6⟩
    rcases h3 k hy with e | e
    · exact e5 e
    · omega
  · obtain ⟨e1, e2, e3⟩ := h.vb k hk
    refine ⟨e1, e2, fun hy => ?_⟩
    rcases h3 k hy with e | e
    · exact e3 e
    · have := h.own.lt hk; omega
  · refine ⟨(h.gx k hk).1, fun hy => ?_⟩
    rcases h3 k hy with e | e
    · exact (h.gx k hk).2 e
    · have := hx k hk; omega
  · rcases h3 k hk with e | e
    · exact h.gy k e
    · omega
/-- Answers are taken of the first one, and laid behind those that were taken. -/
theorem Two.took {v2 v3 : Value} {rws2 : List (Value × Bytes)} {Gx' : List Nat} {W3 : World} (h : Two w0 W px pl pd py ql qd sx sy v rws Gx Gy) (ht : Taken W W' px pl pd sx Gx v2 rws2 Gx')
    (ho : Own W3 22 v3 (rws.map (·.1) ++ rws2.map (·.1))) (hc3 : Chg (fun k => v.ownBlock = some k) W' W3) (hb : v3.ownBlock = v.ownBlock ∨ v3.ownBlock = some W'.heap.size) :
    Two w0 W3 px pl pd py ql qd { sx with box := { sx.box with out := [] } } sy v3 (rws ++ rws2) Gx' Gy := by
  have hc := ht.chg
  have hx := h.x.lt
  have hy := h.y.lt
  have hz := h.chg.size
  have hz1 := hc.size
  have hz3 := hc3.size
  have hne : ∀ k, k < W'.heap.size → v.ownBlock ≠ some k → v3.ownBlock ≠ some k := fun k h1 h2 h3 => by
    rcases hb with e | e
    · exact h2 (e ▸ h3)
    · rw [e] at h3; injection h3 with h3; omega
  have hg : ∀ k ∈ Gx, v.ownBlock ≠ some k := fun k hk e => (h.vb k e).2.1 hk
  refine ⟨ht.box.kept hc3 (fun k hk e => hg k (ht.sub k hk) e), (h.y.kept hc (fun k hk hx => (h.gx k hx).2 hk)).kept hc3 (fun k hk e => (h.vb k e).2.2 hk), by rw [List.map_append]; exact ho, fun r hr => ?_, fun k hk => ?_, fun k hk => h.gx k (ht.sub k hk), h.gy,
    (h.chg.then hc (fun i hi => .inr (h.gx i hi).1)).then hc3 (fun i hi => .inr (h.vb i hi).1)⟩
  · rcases List.mem_append.1 hr with hr | hr
    · obtain ⟨e1, e2⟩ := h.each r hr
      refine ⟨(e1.chg hc (fun k hk hx => (e2 k hk).2.1 hx)).chg hc3 (fun k hk e => (e2 k hk).2.2.2 e), fun k hk => ?_⟩
      obtain ⟨e3, e4, e5, e6⟩ := e2 k hk
      exact ⟨by omega, fun hk' => e4 (ht.sub k hk'), e5, hne k (by omega) e6⟩
    · obtain ⟨e1, e2⟩ := ht.each r hr
      refine ⟨e1.chg hc3 (fun k hk e => hg k (e2 k hk).1 e), fun k hk => ?_⟩
      obtain ⟨e3, e4⟩ := e2 k hk
      have := hx k e3
      exact ⟨by omega, e4, (h.gx k e3).2, hne k (by omega) (hg k e3)⟩
  · rcases hb with e | e
    · rw [e] at hk
      obtain ⟨e1, e2, e3⟩ := h.vb k hk
      exact ⟨e1, fun hx => e2 (ht.sub k hx), e3⟩
    · rw [e] at hk
      injection hk with hk
      subst hk
      exact ⟨by omega, fun h1 => by have := hx _ (ht.sub _ h1); omega, fun h1 => by have := hy _ h1; omega⟩
/-- The second one's answers are taken: what both read as. -/
theorem Two.tookY {v2 : Value} {rws2 : List (Value × Bytes)} {Gy' : List Nat} (h : Two w0 W px pl pd py ql qd sx sy v rws Gx Gy) (ht : Taken W W' py ql qd sy Gy v2 rws2 Gy') :
    Rs W' v (rws.map (·.2)) ∧ Rs W' v2 (rws2.map (·.2)) ∧ InAt W' px pl pd sx Gx ∧ InAt W' py ql qd { sy with box := { sy.box with out := [] } } Gy' ∧ Chg No w0 W' := by
  have hc := ht.chg
  refine ⟨Rs.of_own (h.own.kept hc (fun b hb hy => (h.vb b hb).2.2 hy)) (fun r hr => (h.each r hr).1.chg hc (fun k hk hy => ((h.each r hr).2 k hk).2.2.1 hy)), Rs.of_own ht.own (fun r hr => (ht.each r hr).1),
    h.x.kept hc (fun k hk hy => (h.gx k hk).2 hy), ht.box, h.chg.then hc (fun i hi => .inr (h.gy i hi))⟩

theorem Two.feedx {n : Nat} {N : Int} (h : Two w0 W px pl pd py ql qd sx sy v rws Gx Gy) (hg : Glob w0) (h6 : 6 ≤ w0.heap.size) (vb : Value) (b : Bytes) (hb : Bs W vb b) (hoff : Off (In Gx) vb) (hfn : sx.Fine n) (hn : n + b.length ≤ 1000000)
    (hok : sx.box.d.Ok N) (hN : N + b.length ≤ 4611686018427387000) (hcalm : sx.disk.Calm) :
    Calls Tryz.prog 10 #[.pointer (some ⟨px, 0, none⟩), vb] W fun e w' => e = .returned (.int .i64 0) ∧ ∃ Gx', Two w0 w' px pl pd py ql qd (sx.feed b).1 sy v rws Gx' Gy := by
  refine (feedBox_calls vb b h.x (hg.no h.chg) (fun k hk => Nat.le_trans h6 (h.gx k hk).1) hb hoff hfn hn hok hN).mono ?_
  rintro e w' ⟨rfl, ht⟩
  rw [(Sys.feed_calm hcalm b).2]
  exact ⟨rfl, h.stepx ht⟩
theorem Two.feedy {n : Nat} {N : Int} (h : Two w0 W px pl pd py ql qd sx sy v rws Gx Gy) (hg : Glob w0) (h6 : 6 ≤ w0.heap.size) (vb : Value) (b : Bytes) (hb : Bs W vb b) (hoff : Off (In Gy) vb) (hfn : sy.Fine n) (hn : n + b.length ≤ 1000000)
    (hok : sy.box.d.Ok N) (hN : N + b.length ≤ 4611686018427387000) (hcalm : sy.disk.Calm) :
    Calls Tryz.prog 10 #[.pointer (some ⟨py, 0, none⟩), vb] W fun e w' => e = .returned (.int .i64 0) ∧ ∃ Gy', Two w0 w' px pl pd py ql qd sx (sy.feed b).1 v rws Gx Gy' := by
  refine (feedBox_calls vb b h.y (hg.no h.chg) (fun k hk => Nat.le_trans h6 (h.gy k hk)) hb hoff hfn hn hok hN).mono ?_
  rintro e w' ⟨rfl, ht⟩
  rw [(Sys.feed_calm hcalm b).2]
  exact ⟨rfl, h.stepy ht⟩
/-- One byte, in a new block. -/
theorem Two.feedx1 {n : Nat} {N : Int} (h : Two w0 W px pl pd py ql qd sx sy v rws Gx Gy) (hg : Glob w0) (h6 : 6 ≤ w0.heap.size) (c : UInt8) (hfn : sx.Fine n) (hn : n + 1 ≤ 1000000)
    (hok : sx.box.d.Ok N) (hN : N + 1 ≤ 4611686018427387000) (hcalm : sx.disk.Calm) :
    Calls Tryz.prog 10 #[.pointer (some ⟨px, 0, none⟩), .slice (some ⟨W.heap.size, 0, none⟩) 1 1] (W.alloc (.cells #[.int .u8 c.toNat] 5)) fun e w' => e = .returned (.int .i64 0) ∧ ∃ Gx', Two w0 w' px pl pd py ql qd (sx.feed [c]).1 sy v rws Gx' Gy :=
  (h.old ((Chg.refl No W).alloc _)).feedx hg h6 _ [c] (cells_bs (l := [c]) (heap_alloc_new W _) rfl (show 1 ≤ _ by decide)) (fun k hk hG => by simp [Value.ownBlock] at hk; have := h.x.lt k hG; omega) hfn hn hok hN hcalm
theorem Two.feedy1 {n : Nat} {N : Int} (h : Two w0 W px pl pd py ql qd sx sy v rws Gx Gy) (hg : Glob w0) (h6 : 6 ≤ w0.heap.size) (c : UInt8) (hfn : sy.Fine n) (hn : n + 1 ≤ 1000000)
    (hok : sy.box.d.Ok N) (hN : N + 1 ≤ 4611686018427387000) (hcalm : sy.disk.Calm) :
    Calls Tryz.prog 10 #[.pointer (some ⟨py, 0, none⟩), .slice (some ⟨W.heap.size, 0, none⟩) 1 1] (W.alloc (.cells #[.int .u8 c.toNat] 5)) fun e w' => e = .returned (.int .i64 0) ∧ ∃ Gy', Two w0 w' px pl pd py ql qd sx (sy.feed [c]).1 v rws Gx Gy' :=
  (h.old ((Chg.refl No W).alloc _)).feedy hg h6 _ [c] (cells_bs (l := [c]) (heap_alloc_new W _) rfl (show 1 ≤ _ by decide)) (fun k hk hG => by simp [Value.ownBlock] at hk; have := h.y.lt k hG; omega) hfn hn hok hN hcalm
/-- Two new ones. -/
theorem Two.new {w1 w2 : World} {G H : List Nat} (hc0 : Chg No w0 w1) (hx : InAt w1 px pl pd sx G) (hG : ∀ k ∈ G, w0.heap.size ≤ k) (hc : Chg No w1 w2) (hy : InAt w2 py ql qd sy H) (hH : ∀ k ∈ H, w1.heap.size ≤ k) :
    Two w0 w2 px pl pd py ql qd sx sy (.slice none 0 0) [] G H :=
  ⟨hx.kept hc (fun _ _ x => x), hy, Own.nil _ _, fun r hr => by simp at hr, fun k hk => by simp [Value.ownBlock] at hk, fun k hk => ⟨hG k hk, fun h => by have := hH k h; have := hx.lt k hk; omega⟩, fun k hk => Nat.le_trans hc0.size (hH k hk), hc0.trans hc⟩
end
end Go.Proofs.YtgpmnicmgehmbaaGreatDoor


namespace Lamp
/-- What holds of an inbox that is fed from the start. -/
structure Sys.Good (s : Sys) (n : Nat) : Prop where
  fine : s.Fine n
  ok : s.box.d.Ok n
  found : s.box.d.found = []
  calm : s.disk.Calm
theorem Sys.Good.feed {s : Sys} {n : Nat} (h : s.Good n) (b : Bytes) : (s.feed b).1.Good (n + b.length) := by
  obtain ⟨h1, h2, h3⟩ := h.fine.feed h.ok h.found b
  exact ⟨h1, by push_cast; exact h2, h3, (Sys.feed_calm h.calm b).1⟩
theorem Sys.Good.ahead {s : Sys} {n : Nat} (h : s.Good n) (p : List Bytes) : (s.ahead p).Good n := ⟨⟨h.fine.log, h.fine.seen0, h.fine.seen1, h.fine.kept0, h.fine.kept1⟩, h.ok, h.found, h.calm⟩
theorem Sys.Good.mono {s : Sys} {n m : Nat} (h : s.Good n) (hm : n ≤ m) : s.Good m := ⟨h.fine.mono hm, h.ok.mono (by omega), h.found, h.calm⟩
/-- Without the answers that were taken. -/
def Sys.took (s : Sys) : Sys := { s with box := { s.box with out := [] } }
theorem Sys.Good.took {s : Sys} {n : Nat} (h : s.Good n) : s.took.Good n := ⟨⟨h.fine.log, h.fine.seen0, h.fine.seen1, h.fine.kept0, h.fine.kept1⟩, h.ok, h.found, h.calm⟩
theorem Sys.took_ahead (s : Sys) (p : List Bytes) : s.took.ahead (p ++ s.box.out) = s.ahead p := by
  unfold Sys.took Sys.ahead
  simp
end Lamp
namespace Go.Proofs.YtgpmnicmgehmbaaGreatDoor
open Go.RowKit Lamp Go.Conc
set_option maxRecDepth 100000
set_option maxHeartbeats 1000000

theorem fresh_good (room most : Int) (h1 : 0 ≤ room) (h2 : room ≤ 1073741824) (h3 : 1 ≤ most) (h4 : most ≤ 65536) : (fresh room most).Good 0 :=
  ⟨fresh_fine room most h1 h2, fresh_ok most h3 h4, rfl, ⟨rfl, Int.le_refl _⟩⟩
theorem fresh_told (room most : Int) : (fresh room most).Told 0 := rfl

/-- The loop's state: how much was fed, what was taken. -/
def TakesAt (w W : World) (px pl pd py ql qd : Nat) (k : Nat) (v : Value) : Prop :=
  ∃ sx rws Gx Gy, Two w W px pl pd py ql qd sx (sx.ahead (rws.map (·.2))) v rws Gx Gy ∧ sx.Good k ∧ (sx.ahead (rws.map (·.2))).Told 0

section
variable {w W W' : World} {px pl pd py ql qd k : Nat} {v : Value}
theorem TakesAt.fed1 (hg : Glob w) (h6 : 6 ≤ w.heap.size) (c : UInt8) (hk : k < 2000) (h : TakesAt w W px pl pd py ql qd k v) :
    Calls Tryz.prog 10 #[.pointer (some ⟨px, 0, none⟩), .slice (some ⟨W.heap.size, 0, none⟩) 1 1] (W.alloc (.cells #[.int .u8 c.toNat] 5)) fun e w1 => e = .returned (.int .i64 0) ∧
      Calls Tryz.prog 10 #[.pointer (some ⟨py, 0, none⟩), .slice (some ⟨w1.heap.size, 0, none⟩) 1 1] (w1.alloc (.cells #[.int .u8 c.toNat] 5)) fun e w2 => e = .returned (.int .i64 0) ∧ TakesAt w w2 px pl pd py ql qd (k + 1) v := by
  obtain ⟨sx, rws, Gx, Gy, ht, hgood, htold⟩ := h
  refine (ht.feedx1 hg h6 c hgood.fine (by omega) hgood.ok (by omega) hgood.calm).mono ?_
  rintro e w1 ⟨rfl, Gx', ht1⟩
  have hgy := hgood.ahead (rws.map (·.2))
  refine ⟨rfl, (ht1.feedy1 hg h6 c hgy.fine (by omega) hgy.ok (by omega) hgy.calm).mono ?_⟩
  rintro e w2 ⟨rfl, Gy', ht2⟩
  refine ⟨rfl, (sx.feed [c]).1, rws, Gx', Gy', ?_, hgood.feed [c], ?_⟩
  · rw [← show ((sx.ahead (rws.map (·.2))).feed [c]).1 = ((sx.feed [c]).1).ahead (rws.map (·.2)) from by rw [Sys.feed_ahead]]
    exact ht2
  · rw [← show ((sx.ahead (rws.map (·.2))).feed [c]).1 = ((sx.feed [c]).1).ahead (rws.map (·.2)) from by rw [Sys.feed_ahead]]
    exact htold.feed [c]
/-- Take, and what append asks and gives. -/
theorem TakesAt.take (hk : k ≤ 2000) (h : TakesAt w W px pl pd py ql qd k v) :
    Calls Tryz.prog 11 #[.pointer (some ⟨px, 0, none⟩)] W fun e w1 => ∃ q n c xs news, e = .returned (.slice q n c) ∧ Own w1 22 v xs ∧ Src w1 (.slice q n c) news ∧ (∀ u ∈ news, u.oneCell' = true) ∧ xs.length + news.length ≤ 2000 ∧
      ∀ v3 w3, Own w3 22 v3 (xs ++ news) → Chg (fun k => v.ownBlock = some k) w1 w3 → (v3.ownBlock = v.ownBlock ∨ v3.ownBlock = some w1.heap.size) → TakesAt w w3 px pl pd py ql qd k v3 ∧
        ∃ sx rws Gx Gy, sx.box.out = [] ∧ Two w w3 px pl pd py ql qd sx (sx.ahead (rws.map (·.2))) v3 rws Gx Gy ∧ sx.Good k ∧ (sx.ahead (rws.map (·.2))).Told 0 := by
  obtain ⟨sx, rws, Gx, Gy, ht, hgood, htold⟩ := h
  refine (takeBox_calls ht.x (by have := hgood.fine.seen1; omega)).mono ?_
  rintro e w1 ⟨v2, rws2, Gx', rfl, htk⟩
  obtain ⟨q, cap, hv2⟩ := htk.own.sliceOf
  have hlen : (sx.ahead (rws.map (·.2))).box.out.length = rws.length + rws2.length := by
    show (rws.map (·.2) ++ sx.box.out).length = _
    rw [htk.told]; simp
  have hs : ((rws.length + rws2.length : Nat) : Int) ≤ k := by
    have h1 := htold
    unfold Sys.Told at h1
    rw [hlen] at h1
    have h2 := hgood.fine.seen1
    have h3 : (sx.ahead (rws.map (·.2))).box.seen = sx.box.seen := rfl
    omega
  have hsrc := htk.own.src
  rw [hv2] at hsrc
  refine ⟨q, _, cap, rws.map (·.1), rws2.map (·.1), by rw [hv2], ht.own.kept htk.chg (fun b hb hx => (ht.vb b hb).2.1 hx), hsrc, ?_, by simp; omega, ?_⟩
  · intro u hu
    simp only [List.mem_map] at hu
    obtain ⟨r, hr, rfl⟩ := hu
    exact (htk.each r hr).1.one
  · intro v3 w3 ho hc hb
    have ht3 := ht.took htk ho hc hb
    have he : (sx.took).ahead ((rws ++ rws2).map (·.2)) = sx.ahead (rws.map (·.2)) := by
      rw [List.map_append, ← htk.told, Sys.took_ahead]
    rw [← he] at ht3 htold
    exact ⟨⟨sx.took, rws ++ rws2, Gx', Gy, ht3, hgood.took, htold⟩, sx.took, rws ++ rws2, Gx', Gy, rfl, ht3, hgood.took, htold⟩
/-- What is asked at the end. -/
theorem takes_end {sx : Lamp.Sys} {rws : List (Value × Bytes)} {Gx Gy : List Nat} (hout : sx.box.out = []) (hT : Two w W px pl pd py ql qd sx (sx.ahead (rws.map (·.2))) v rws Gx Gy) (hgood : sx.Good k) (hk : k ≤ 2000) (htold : (sx.ahead (rws.map (·.2))).Told 0) :
    Calls Tryz.prog 11 #[.pointer (some ⟨py, 0, none⟩)] W fun e w1 => ∃ q n c, e = .returned (.slice q n c) ∧
      Calls Tryz.prog 12 #[v, .slice q n c] w1 fun e w2 => e = .returned (.bool true) ∧
        (Calls Tryz.prog 13 #[.pointer (some ⟨px, 0, none⟩)] w2 fun e w3 => e = .returned (.int .i64 rws.length) ∧ w2 = w3) ∧
        Calls Tryz.prog 11 #[.pointer (some ⟨px, 0, none⟩)] w2 fun e w4 => ∃ q c, e = .returned (.slice q 0 c) ∧ Chg No w w4 := by
  have hs1 := hgood.fine.seen1
  have hout2 : (sx.ahead (rws.map (·.2))).box.out = rws.map (·.2) := by show rws.map (·.2) ++ sx.box.out = _; rw [hout, List.append_nil]
  have hseen : sx.box.seen = rws.length := by
    have h1 := htold
    unfold Sys.Told at h1
    rw [hout2, List.length_map, Nat.zero_add] at h1
    exact h1
  refine (takeBox_calls hT.y (by show sx.box.seen ≤ _; omega)).mono ?_
  rintro e w1 ⟨v2, rws2, Gy', rfl, htk⟩
  obtain ⟨h1, h2, h3, h4, h5⟩ := hT.tookY htk
  obtain ⟨q, cap, hv2⟩ := htk.own.sliceOf
  have htold2 := htk.told
  rw [hout2] at htold2
  have hxx := hT.gx
  subst hv2
  refine ⟨q, _, cap, rfl, (same_calls h1 h2 (by simp; omega)).mono ?_⟩
  rintro e w2 ⟨rfl, n, rfl⟩
  have h6 := h3.kept ((Chg.refl No w1).drewN n) (fun _ _ x => x)
  refine ⟨by rw [htold2]; simp, ?_, ?_⟩
  · have := seen_calls h6
    rw [hseen] at this
    exact this
  · refine (takeBox_calls h6 (by omega)).mono ?_
    rintro e w4 ⟨v4, rws4, Gx4, rfl, htk4⟩
    obtain ⟨q4, cap4, hv4⟩ := htk4.own.sliceOf
    have h0 := htk4.told
    rw [hout] at h0
    have h00 : rws4 = [] := List.map_eq_nil_iff.1 h0.symm
    subst h00
    refine ⟨q4, cap4, by rw [hv4]; rfl, (h5.drewN n).then htk4.chg (fun i hi => .inr (hxx i hi).1)⟩
end

theorem takes_short (w : World) (p : Option Addr) (n cap : Nat) (ev : Int) (hg : Glob w) (h6 : 6 ≤ w.heap.size) (hl : 2000 < n) :
    Calls Tryz.prog 3 #[.slice p n cap, .int .u8 ev] w fun e w' => e = .returned (.bool true) ∧ Chg No w w' := by
  have hl2 : decide ((2000 : Int) < n) = true := by rw [decide_eq_true_iff]; omega
  have HA := Lib.hid (fun w1 (h : Chg No w w1) => alive_calls w1 (hg.no h) (Nat.le_trans h6 h.size))
  clear hg h6 hl
  go_enter Tryz.func3, Tryz.ntmps3
  go_wp2_with fail
  refine (HA.out w (Chg.refl _ _)).mono ?_
  rintro e w1 ⟨rfl, hc1⟩
  have HA1 := Lib.hid (HA.out w1 hc1)
  have HC1 := Lib.hid hc1
  clear hc1 HA
  go_wp2_with fail
  refine HA1.out.mono ?_
  rintro e w2 ⟨rfl, hc2⟩
  have HC2 := Lib.hid (HC1.out.trans hc2)
  clear hc2 HC1 HA1
  go_wp2_with fail
  go_ret
  exact ⟨rfl, HC2.out⟩

theorem takes_long (w : World) (vb : Value) (b : Bytes) (ev : Int) (hg : Glob w) (h6 : 6 ≤ w.heap.size) (hb : Bs w vb b) (h0 : 0 ≤ ev) (hl : b.length ≤ 2000) :
    Calls Tryz.prog 3 #[vb, .int .u8 ev] w fun e w' => e = .returned (.bool true) ∧ Chg No w w' := by
  have HB := Lib.hid hb
  obtain ⟨p, cap, rfl, _, _, _, hby⟩ := hb
  have hl2 : decide ((2000 : Int) < b.length) = false := by rw [decide_eq_false_iff_not]; omega
  have HAL := Lib.hid (alive_calls w hg h6)
  have HG := Lib.hid hg
  have H6 := Lib.hid h6
  have HBY := Lib.hid hby
  have HL := Lib.hid hl
  clear hg h6 hl hby
  go_enter Tryz.func3, Tryz.ntmps3
  go_wp2_with fail
  refine HAL.out.mono ?_
  rintro e w1 ⟨rfl, hc1⟩
  have HC1 := Lib.hid hc1
  have HN1 := Lib.hid (beginBox_calls w1 3000 600 (by decide) (by decide) (by decide) (by decide))
  clear hc1 HAL
  go_wp2_with fail
  refine HN1.out.mono ?_
  rintro e w2 ⟨pd, pl, px, G, rfl, hin, hc2, hG⟩
  have HI2 := Lib.hid hin
  have HC2 := Lib.hid hc2
  have HG2 := Lib.hid hG
  have HN2 := Lib.hid (beginBox_calls w2 3000 600 (by decide) (by decide) (by decide) (by decide))
  clear hin hc2 hG HN1
  go_wp2_with fail
  refine HN2.out.mono ?_
  rintro e w3 ⟨qd, ql, py, H, rfl, hin, hc3, hH⟩
  have HT : Hid (TakesAt w w3 px pl pd py ql qd 0 (.slice none 0 0)) := ⟨fresh 3000 600, [], G, H, Two.new (HC1.out.trans HC2.out) HI2.out (fun k hk => Nat.le_trans HC1.out.size (HG2.out k hk)) hc3 hin hH, fresh_good _ _ (by decide) (by decide) (by decide) (by decide), fresh_told _ _⟩
  clear hin hc3 hH HN2 HI2 HC2 HG2 HC1
  go_wp2_with fail
  go_loopw [11, 40] (fun v i wr => ∃ k : Nat, k ≤ b.length ∧ i = .int .i64 k ∧ TakesAt w wr px pl pd py ql qd k v) (fun _ i _ => b.length - (intOf i).toNat)
  case atStart => exact ⟨0, Nat.zero_le _, rfl, HT.out⟩
  case round =>
    obtain ⟨k, hk, rfl, hat⟩ := hrel
    clear HT
    by_cases hkl : k < b.length
    · obtain ⟨bb, o, rfl, hcell⟩ := Bs.at HBY.out k hkl
      have hcw : Chg No w wr := by obtain ⟨_, _, _, _, hT, _⟩ := hat; exact hT.chg
      have c0 := hcw.cell hcell (fun x => x)
      have HF := Lib.hid (hat.fed1 HG.out H6.out b[k] (by have := HL.out; omega))
      have HKL := Lib.hid hkl
      have hk9 : (k : Int) ≤ 2000 := by have := HL.out; omega
      clear hat hcell hcw
      generalize b[k] = c at c0 HF
      go_wp2_with fail
      refine HF.out.mono ?_
      rintro e w4 ⟨rfl, hf2⟩
      have HF2 := Lib.hid hf2
      clear hf2 HF c0
      go_wp2_with fail
      refine HF2.out.mono ?_
      rintro e w5 ⟨rfl, hat⟩
      have HAT := Lib.hid hat
      clear hat HF2
      go_wp2_with fail
      · refine (HAT.out.take (by have := HL.out; have := HKL.out; omega)).mono ?_
        rintro e w6 ⟨q, n, cq, xs, news, rfl, ho, hs, h1, hlen, hnext⟩
        have HO := Lib.hid ho
        have HS := Lib.hid hs
        have H1 := Lib.hid h1
        have HLN := Lib.hid hlen
        have HNX := Lib.hid hnext
        clear ho hs h1 hlen hnext HAT
        go_wp2_with (at_builtin; refine wpList_appR0 rfl _ _ rfl u11 xs rfl ?o1 _ news rfl ?o2 ?o3 ?o4 ?_; (case o1 => exact HO.out); (case o2 => exact HS.out); (case o3 => exact H1.out); (case o4 => (have := HLN.out; omega)); intro q9 cap9 w9 hown9 hchg9 hblk9)
        have hat9 := (HNX.out _ _ hown9 hchg9 hblk9).1
        exact ⟨⟨k + 1, HKL.out, by go_num, hat9⟩, by have := HKL.out; simp [intOf]; omega⟩
      · exact ⟨⟨k + 1, HKL.out, by go_num, HAT.out⟩, by have := HKL.out; simp [intOf]; omega⟩
    · obtain rfl : k = b.length := by omega
      have HTK := Lib.hid (hat.take HL.out)
      clear hat
      go_wp2_with fail
      refine HTK.out.mono ?_
      rintro e w6 ⟨q, n, cq, xs, news, rfl, ho, hs, h1, hlen, hnext⟩
      have HO := Lib.hid ho
      have HS := Lib.hid hs
      have H1 := Lib.hid h1
      have HLN := Lib.hid hlen
      have HNX := Lib.hid hnext
      clear ho hs h1 hlen hnext HTK
      go_wp2_with (at_builtin; refine wpList_appR0 rfl _ _ rfl u11 xs rfl ?o1 _ news rfl ?o2 ?o3 ?o4 ?_; (case o1 => exact HO.out); (case o2 => exact HS.out); (case o3 => exact H1.out); (case o4 => (have := HLN.out; omega)); intro q9 cap9 w9 hown9 hchg9 hblk9)
      obtain ⟨_, sx, rws, Gx, Gy, hout, hT, hgood, htold⟩ := HNX.out _ _ hown9 hchg9 hblk9
      obtain ⟨qv, cv, hv⟩ := hT.own.sliceOf
      have hlen : rws.length = xs.length + news.length := by
        injection hv with _ e _
        rw [List.length_map] at e
        exact e.symm
      have HE := Lib.hid (takes_end hout hT hgood HL.out htold)
      rw [hlen] at HE
      have hl9 := HLN.out
      clear HO HS HNX hown9 hchg9 hblk9 hout hT hgood htold hv hlen HLN
      generalize xs.length + news.length = N at *
      refine HE.out.mono ?_
      rintro e w10 ⟨q10, n10, c10, rfl, he2⟩
      have HE2 := Lib.hid he2
      clear he2 HE
      go_wp2_with fail
      refine HE2.out.mono ?_
      rintro e w11 ⟨rfl, hsn, htk⟩
      have HSN := Lib.hid hsn
      have HTK := Lib.hid htk
      clear hsn htk HE2
      go_wp2_with fail
      refine HSN.out.mono ?_
      rintro e w12 ⟨rfl, rfl⟩
      go_wp2_with fail
      refine HTK.out.mono ?_
      rintro e w13 ⟨q13, c13, rfl, hc13⟩
      have HC13 := Lib.hid hc13
      clear hc13
      go_wp2_with fail
      go_ret
      exact ⟨rfl, HC13.out⟩

end Go.Proofs.YtgpmnicmgehmbaaGreatDoor
