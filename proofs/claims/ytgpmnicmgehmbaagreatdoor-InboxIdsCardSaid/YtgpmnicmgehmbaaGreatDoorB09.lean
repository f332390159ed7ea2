/- accept.answers: a map whose keys are errors' numbers.
   accept.Verdict.
   accept.Verdict, where a head is read.
   Frames: Good, Count, Wrap, Unwrap.
   accept.Stored and accept.Reply.
   Channels in one goroutine: a region whose operations send and receive where nothing waits. -/
import Derived.Test.YtgpmnicmgehmbaaGreatDoorB08
import Derived.Test.YtgpmnicmgehmbaaGreatDoorB03
import Derived.Test.YtgpmnicmgehmbaaGreatDoorB02
import Derived.Test.YtgpmnicmgehmbaaGreatDoorB01
import Derived.Conc.LoneCalls

namespace Go.Proofs.YtgpmnicmgehmbaaGreatDoor
open Go.RowKit Lamp
set_option maxRecDepth 100000
set_option maxHeartbeats 400000

/-- A number's place among keys, and what lies there. -/
def iplace (n : Int) : List (Int × Value) → Nat → Option (Nat × Value)
  | [], _ => none
  | (k, v) :: l, i => if n = k then some (i, v) else iplace n l (i + 1)
def IMapAt (w : World) (m : Nat) (L : List (Int × Value)) : Prop :=
  ∃ es clock, w.heap[m]? = some (.map es clock) ∧ es.toList.map (fun e => (e.key, e.val)) = L.map fun p => (Value.int .i64 p.1, p.2)
theorem findNow_int (n : Int) : ∀ (es : List MapEntry) (L : List (Int × Value)) (i : Nat), es.map (fun e => (e.key, e.val)) = L.map (fun p => (Value.int .i64 p.1, p.2)) →
    Instr.findNow (.int .i64) (.int .i64 n) es i = some (iplace n L i)
  | [], [], _, _ => rfl
  | [], _ :: _, _, h => by simp at h
  | _ :: _, [], _, h => by simp at h
  | e :: es, (k, v) :: L, i, h => by
    simp only [List.map_cons, List.cons.injEq, Prod.mk.injEq] at h
    obtain ⟨⟨hk, hv⟩, ht⟩ := h
    simp only [Instr.findNow, hk, Instr.sameNow, iplace]
    by_cases e1 : n = k
    · subst e1; simp [hv]
    · have : (n == k) = false := by simpa using e1
      simp only [this, if_neg e1]
      simpa using findNow_int n es L (i + 1) ht
theorem IMapAt.chg {S : Nat → Prop} {w w' : World} {m : Nat} {L : List (Int × Value)} (h : IMapAt w m L) (hc : Chg S w w') (hm : ¬ S m) : IMapAt w' m L := by
  obtain ⟨es, clock, h1, h2⟩ := h
  exact ⟨es, clock, hc.heap h1 hm, h2⟩

section
variable {P : Program} {w : World} {T kT eT m : Nat} {L : List (Int × Value)}
theorem checkKey_int (b : Bool) (hk : P.underlying kT = some (.int .i64)) (s : Int) (n : Nat) : (Instr.checkKey b (n + 1) kT (.int .i64 s)).run P w = .ok () w := by
  simp [Instr.checkKey, run_underlying hk]
theorem findKey_int (hk : P.underlying kT = some (.int .i64)) (s : Int) {es : Array MapEntry} (he : es.toList.map (fun e => (e.key, e.val)) = L.map fun p => (Value.int .i64 p.1, p.2)) :
    (Instr.findKey kT (.int .i64 s) es.toList).run P w = .ok (iplace s L 0) w := by
  simp [Instr.findKey, run_underlying hk, findNow_int s es.toList L 0 he]
theorem ilookup_found (ht : P.underlying T = some (.map kT eT)) (hk : P.underlying kT = some (.int .i64)) (h : IMapAt w m L) (s : Int) {i : Nat} {v : Value} (hp : iplace s L 0 = some (i, v)) :
    (Instr.lookup T (.map (some m)) (.int .i64 s) false).run P w = .ok v w := by
  obtain ⟨es, clock, h1, h2⟩ := h
  simp [Instr.lookup, run_underlying ht, getObj_map h1, checkKey_int _ hk, findKey_int hk s h2, hp]
theorem iupdate_new (ht : P.underlying T = some (.map kT eT)) (hk : P.underlying kT = some (.int .i64)) (h : IMapAt w m L) (s : Int) (v : Value) (hp : iplace s L 0 = none) :
    ∃ w', (Instr.mapUpdate T (.map (some m)) (.int .i64 s) v).run P w = .ok () w' ∧ IMapAt w' m (L ++ [(s, v)]) ∧ Chg (In [m]) w w' := by
  obtain ⟨es, clock, h1, h2⟩ := h
  have hlt := lt_of_heap h1
  refine ⟨{ w with heap := w.heap.setIfInBounds m (.map (es.push { key := .int .i64 s, val := v, born := clock }) (clock + 1)) }, ?_, ⟨es.push { key := .int .i64 s, val := v, born := clock }, clock + 1, by simp [hlt], ?_⟩, ?_⟩
  · simp [Instr.mapUpdate, run_underlying ht, getObj_map h1, checkKey_int _ hk, findKey_int hk s h2, hp, setObj, Sem.run, h1]
  · simp [h2]
  · exact ⟨rfl, rfl, rfl, by simp, fun k _ hn => by simp only [Array.getElem?_setIfInBounds]; rw [if_neg (by intro e; exact hn (by simp [e]))]⟩
end
theorem wpList_insNew {P : Program} {w : World} {ops : Array Oper} {rest : List Oper} {o : Oper} {a : Act} {Q : Exit → Act → World → Prop} (hgd : o.guard = none) (T : TypeId) (mo ko vo : Operand) (ho : o.op = .insert T mo ko vo)
    {kT eT m : Nat} {L : List (Int × Value)} (ht : P.underlying T = some (.map kT eT)) (hk : P.underlying kT = some (.int .i64)) (s : Int) (v : Value) (hm : a.eval mo = .map (some m)) (hkk : a.eval ko = .int .i64 s) (hv : a.eval vo = v)
    (h : IMapAt w m L) (hp : iplace s L 0 = none) (hnext : ∀ w', IMapAt w' m (L ++ [(s, v)]) → Chg (In [m]) w w' → wpList P ops Q rest (a.put o.dst undef) w') : wpList P ops Q (o :: rest) a w := by
  refine wpList_plain hgd fun K hK => ?_
  obtain ⟨w', hr, h1, h2⟩ := iupdate_new ht hk h s v hp
  unfold Oper.wp execOp
  simp only [ho, hm, hkk, hv, Sem.run_bind, hr, Result.andThen_ok, Sem.run_pure]
  exact hK _ _ (hnext w' h1 h2)

abbrev ansL : List (Int × Value) := [(0, .string (ofL aa)), (14, .string (ofL ae)), (12, .string (ofL ar)), (13, .string (ofL ar))]
theorem answers_calls (w : World) : Calls Tryz.prog 110 #[] w fun e w' => e = .returned (.map (some w.heap.size)) ∧ IMapAt w' w.heap.size ansL ∧ Chg No w w' := by
  have hmm := @run_makeMap Tryz.prog
  have H0 : Hid (IMapAt (w.alloc (.map #[] 0)) w.heap.size []) := Lib.hid ⟨#[], 0, heap_alloc_new _ _, rfl⟩
  go_enter Tryz.func110, Tryz.ntmps110
  go_wp2_with (first
    | (refine wpList_insNew rfl 186 _ _ _ rfl Tryz.underlying186 Tryz.underlying30 (0) (.string (ofL aa)) rfl rfl rfl H0.out rfl ?_; intro w1 h1 hc1; have H1 := Lib.hid h1; have C1 := Lib.hid hc1; clear h1 hc1)
    | (refine wpList_insNew rfl 186 _ _ _ rfl Tryz.underlying186 Tryz.underlying30 (14) (.string (ofL ae)) rfl rfl rfl H1.out rfl ?_; intro w2 h2 hc2; have H2 := Lib.hid h2; have C2 := Lib.hid hc2; clear h2 hc2)
    | (refine wpList_insNew rfl 186 _ _ _ rfl Tryz.underlying186 Tryz.underlying30 (12) (.string (ofL ar)) rfl rfl rfl H2.out rfl ?_; intro w3 h3 hc3; have H3 := Lib.hid h3; have C3 := Lib.hid hc3; clear h3 hc3)
    | (refine wpList_insNew rfl 186 _ _ _ rfl Tryz.underlying186 Tryz.underlying30 (13) (.string (ofL ar)) rfl rfl rfl H3.out rfl ?_; intro w4 h4 hc4; have H4 := Lib.hid h4; have C4 := Lib.hid hc4; clear h4 hc4))
  go_ret
  refine ⟨rfl, H4.out, ?_⟩
  have hs : ∀ i, In [w.heap.size] i → (No : Nat → Prop) i ∨ w.heap.size ≤ i := by intro i hi; simp at hi; exact .inr (by omega)
  exact (((((Chg.refl No w).alloc _).then C1.out hs).then C2.out hs).then C3.out hs).then C4.out hs
end Go.Proofs.YtgpmnicmgehmbaaGreatDoor


namespace Go.Proofs.YtgpmnicmgehmbaaGreatDoor
open Go.RowKit Lamp
set_option maxRecDepth 100000
set_option maxHeartbeats 400000

theorem bcut_calls {w : World} {p p2 : Option Addr} {cap cap2 : Nat} (b : Bytes) (c : UInt8) (h : Bs w (.slice p b.length cap) b) (h2 : Bs w (.slice p2 1 cap2) [c]) (hg : Glob w) (hl : b.length < 4294967281) :
    Calls Tryz.prog 108 #[.slice p b.length cap, .slice p2 1 cap2] w fun e w' => ∃ q1 n1 c1 u2 t, e = .returned (.tuple #[.slice q1 n1 c1, u2, .bool t]) ∧ Bs w (.slice q1 n1 c1) (upTo c b) ∧ ∃ q, w' = w.drewN q := by
  obtain ⟨m, hm⟩ := hg.most
  have hb := h
  obtain ⟨p', cap', hv, a1, a2, a3, a4⟩ := h
  simp only [Value.slice.injEq] at hv
  obtain ⟨rfl, _, rfl⟩ := hv
  obtain ⟨p2', cap2', hv, b1, b2, b3, b4⟩ := h2
  simp only [Value.slice.injEq] at hv
  obtain ⟨rfl, _, rfl⟩ := hv
  refine (Tryz.bytes_Cut_all p p2 b.length cap 1 cap2 (nums b) (nums [c]) m w (length_nums b) rfl (range_nums b) (range_nums [c]) a4 b4 a3 a1 hl (by decide) hm).mono ?_
  rintro e w' ⟨rfl, hq⟩
  rw [bytesOf_nums, bytesOf_nums]
  have hcut := cut_one c b
  unfold Lib.cut at hcut
  unfold Lib.cutV
  by_cases hi : 0 ≤ Lib.index b [c]
  · rw [if_pos hi] at hcut ⊢
    have hu : upTo c b = b.take (Lib.index b [c]).toNat := by rw [upTo_cut, ← hcut]
    have hle : (Lib.index b [c]).toNat ≤ b.length := by
      have h1 := Lib.index_room b [c] hi
      simp only [List.length_cons, List.length_nil] at h1
      omega
    refine ⟨_, _, _, _, _, rfl, ?_, hq⟩
    rw [hu]
    exact hb.take _ hle
  · rw [if_neg hi] at hcut ⊢
    have hu : upTo c b = b := by rw [upTo_cut, ← hcut]
    exact ⟨_, _, _, _, _, rfl, by rw [hu]; exact hb, hq⟩

theorem field_len (s : Bytes) (n : Int) (d : Delims) (hn : 2 ≤ n) : (field s n d).length ≤ s.length := by
  unfold field
  rw [if_neg (by omega)]
  unfold field0
  split
  · rw [behind_cut]
    have h := cutAt_len d.field s
    cases (cutAt d.field s).2.2 with
    | false => simp
    | true =>
      simp only [↓reduceIte]
      have := nth_len (cutAt d.field s).2.1 d.field n
      omega
  · split
    · simp only [if_neg (show ¬ n = 1 by omega)]
      have := nth_len (s.drop 4) d.field (n - 1)
      rw [List.length_drop] at this
      omega
    · simp

theorem results_cell_tmp2_row {P : Program} {fn : Func} {p u v : Tmp} {ty : TypeId} (h : fn.results = #[.cell p ty, .tmp u, .tmp v]) (tmps : Array Value) (w : World) (g : Nat) (t : TypeId) (cs : Array Value) (fr : Nat × Nat) (d : TypeDesc)
    (hp : tmps.getD p undef = .pointer (some ⟨g, 0, none⟩)) (hg : w.heap[g]? = some (.cells cs t fr)) (hu : P.underlying ty = some d)
    (hd : (match d with | .struct _ | .array _ _ => true | _ => false) = true) (hi : (P.info? ty).map (·.size) = some cs.size) :
    (results fn tmps).run P w = .ok (.tuple #[.agg cs, tmps.getD u undef, tmps.getD v undef]) w := by
  have hp' : tmps[p]?.getD undef = .pointer (some ⟨g, 0, none⟩) := by simpa using hp
  simp [results, h, hp', asAddr, run_loadVar_row w g t ty cs fr d hg hu hd hi]

def endVerdict (x : Head × Bytes × Int) : Ending := .returned (.tuple #[hvH x.1, .string (ofL x.2.1), .int .i64 x.2.2])

theorem readHead_err {b : Bytes} {e : Int} (h : readHead b = .error e) : (e != 0) = true := by
  unfold readHead at h
  split at h
  · rename_i e' he
    injection h with h
    subst h
    rcases delimRead_err he with rfl | rfl <;> rfl
  · simp only [] at h
    split at h
    · injection h with h; subst h; rfl
    · cases h
theorem readHead_head {b : Bytes} {h : Head} (hr : readHead b = .ok h) : ∃ d f, h = headOf d f ∧ ∀ i < 10, (f i).length ≤ b.length := by
  cases hd : delimRead b with
  | error e => unfold readHead at hr; rw [hd] at hr; cases hr
  | ok d =>
    have h9 : 9 ≤ b.length := by
      rcases Nat.lt_or_ge b.length 9 with h | h
      · rw [delimRead_short b h] at hd; cases hd
      · exact h
    obtain ⟨s, ls, hsp⟩ : ∃ s ls, split b = s :: ls := by
      cases h : split b with
      | nil => exact absurd h (split_ne h9)
      | cons s ls => exact ⟨s, ls, rfl⟩
    have hs := split_each b s (by rw [hsp]; simp)
    have ho := readHead_ok hd
    rw [hsp] at ho
    simp only [List.headD_cons] at ho
    by_cases hf : field s 2 d = d.others
    · rw [ho.1 hf] at hr
      injection hr with hr
      refine ⟨d, partTexts s d 10, hr.symm, fun i hi => ?_⟩
      unfold partTexts
      rw [if_pos hi]
      exact Nat.le_trans (field_len s _ d (by omega)) hs
    · rw [ho.2 hf] at hr
      cases hr

theorem verdict_error {w : World} {v : Value} (b : Bytes) (hb : Bs w v b) (hg : Glob w) (hbl : b.length < 4294967281) (e : Int) (he : readHead b = .error e) :
    Calls Tryz.prog 77 #[v] w fun e' w' => e' = endVerdict (verdict b) ∧ Chg No w w' := by
  have hv : verdict b = (Head.none, [], e) := by unfold verdict; rw [he]
  rw [hv]
  have HR := Lib.hid (fun w1 h1 h2 => mread_calls (w := w1) (v := v) b h1 h2 hbl)
  rw [he] at HR
  unfold endHead at HR
  simp only at HR
  rw [hvH_none] at HR
  unfold endVerdict
  simp only
  rw [hvH_none]
  have hne := readHead_err he
  have HB := Lib.hid (hb.chg ((Chg.refl No w).alloc (.cells noCells 112)) (fun _ _ x => x))
  obtain ⟨q, cap, rfl, _, _, _, _⟩ := hb
  clear he hv
  go_enter Tryz.func77, Tryz.ntmps77
  go_wp2_with fail
  refine (HR.out _ HB.out (hg.no ((Chg.refl No w).alloc _))).mono ?_
  rintro e1 w1 ⟨rfl, hc⟩
  have hb1 := hc.heap (heap_alloc_new _ _) (fun x => x)
  have HC := Lib.hid (((Chg.refl No w).alloc _).trans hc)
  have HB1 := Lib.hid hb1
  clear hc hb1
  go_wp2_with (refine wpList_store_row rfl 112 _ _ rfl w.heap.size noCells rfl rfl 112 _ (heap_old_al HB1.out _) (by kernel_rfl) rfl one_none ?_; intro hb2 hc2; have HB2 := Lib.hid hb2; have HC2 := Lib.hid hc2; clear hb2 hc2)
  refine bodyPost_ret (results_cell_tmp2_row rfl _ _ w.heap.size 112 noCells (0, 0) _ rfl HB2.out Tryz.underlying112 rfl (by kernel_rfl)) rfl ⟨rfl, ?_⟩
  exact (HC.out.alloc _).then HC2.out (by rintro i rfl; right; exact Nat.le_refl _)
end Go.Proofs.YtgpmnicmgehmbaaGreatDoor


namespace Go.Proofs.YtgpmnicmgehmbaaGreatDoor
open Go.RowKit Lamp
set_option maxRecDepth 100000
set_option maxHeartbeats 400000

theorem hvH_of (d : Delims) (f : Nat → Bytes) : hvH (headOf d f) = .agg (headCells d f) := rfl
/-- The code that answers an error. -/
def codeOf (e : Int) : Bytes := if e = 0 then aa else if e = 14 then ae else if e = 12 ∨ e = 13 then ar else []
theorem check_four (d : Delims) (f : Nat → Bytes) : checkF d f = 14 ∨ checkF d f = 12 ∨ checkF d f = 13 ∨ checkF d f = 0 := by
  unfold checkF
  split
  · exact .inl rfl
  · split
    · exact .inr (.inl rfl)
    · split
      · exact .inr (.inr (.inl rfl))
      · exact .inr (.inr (.inr rfl))
theorem ans_of (e : Int) (h : e = 14 ∨ e = 12 ∨ e = 13 ∨ e = 0) : ∃ i, iplace e ansL 0 = some (i, .string (ofL (codeOf e))) := by
  rcases h with rfl | rfl | rfl | rfl
  · exact ⟨1, rfl⟩
  · exact ⟨2, rfl⟩
  · exact ⟨3, rfl⟩
  · exact ⟨0, rfl⟩

/-- A head laid into a block, cell by cell. -/
def headSet (w : World) (g : Nat) (d : Delims) (f : Nat → Bytes) : World := (((((((((((((((w.setCell ⟨g, 0, none⟩ (.int .u8 (d.field.toNat : Int))).setCell ⟨g, 1, none⟩ (.int .u8 (d.part.toNat : Int))).setCell ⟨g, 2, none⟩ (.int .u8 (d.again.toNat : Int))).setCell ⟨g, 3, none⟩ (.int .u8 (d.esc.toNat : Int))).setCell ⟨g, 4, none⟩ (.int .u8 (d.sub.toNat : Int))).setCell ⟨g, 5, none⟩ (.string (ofL (f 0)))).setCell ⟨g, 6, none⟩ (.string (ofL (f 1)))).setCell ⟨g, 7, none⟩ (.string (ofL (f 2)))).setCell ⟨g, 8, none⟩ (.string (ofL (f 3)))).setCell ⟨g, 9, none⟩ (.string (ofL (f 4)))).setCell ⟨g, 10, none⟩ (.string (ofL (f 5)))).setCell ⟨g, 11, none⟩ (.string (ofL (f 6)))).setCell ⟨g, 12, none⟩ (.string (ofL (f 7)))).setCell ⟨g, 13, none⟩ (.string (ofL (f 8)))).setCell ⟨g, 14, none⟩ (.string (ofL (f 9))))
theorem headSet_heap {w : World} {g : Nat} {T : TypeId} (h : w.heap[g]? = some (.cells noCells T (0, 0))) (d : Delims) (f : Nat → Bytes) : (headSet w g d f).heap[g]? = some (.cells (headCells d f) T (0, 0)) := by
  unfold headSet
  rw [(set_blk (set_blk (set_blk (set_blk (set_blk (set_blk (set_blk (set_blk (set_blk (set_blk (set_blk (set_blk (set_blk (set_blk (set_blk h 0 _) 1 _) 2 _) 3 _) 4 _) 5 _) 6 _) 7 _) 8 _) 9 _) 10 _) 11 _) 12 _) 13 _) 14 _)]
  simp
theorem headSet_chg (w : World) (g : Nat) (d : Delims) (f : Nat → Bytes) : Chg (fun k => k = g) w (headSet w g d f) :=
  ((((((((((((((((Chg.refl (fun k => k = g) w).setCell (.inl rfl) _).setCell (.inl rfl) _).setCell (.inl rfl) _).setCell (.inl rfl) _).setCell (.inl rfl) _).setCell (.inl rfl) _).setCell (.inl rfl) _).setCell (.inl rfl) _).setCell (.inl rfl) _).setCell (.inl rfl) _).setCell (.inl rfl) _).setCell (.inl rfl) _).setCell (.inl rfl) _).setCell (.inl rfl) _).setCell (.inl rfl) _)

set_option maxHeartbeats 2000000 in
theorem verdict_ok {w : World} {v : Value} (b : Bytes) (hb : Bs w v b) (hg : Glob w) (hbl : b.length < 4294967281) (d : Delims) (f : Nat → Bytes) (he : readHead b = .ok (headOf d f)) (hl : ∀ i < 10, (f i).length < 4294967281) :
    Calls Tryz.prog 77 #[v] w fun e' w' => e' = endVerdict (verdict b) ∧ Chg No w w' := by
  have hv1 : (upTo 13 b).contains 28 = true → verdict b = (Head.none, [], 10) := by intro h; unfold verdict; rw [he]; simp only [h, ↓reduceIte]
  have hv2 : (upTo 13 b).contains 28 = false → verdict b = (headOf d f, codeOf (checkF d f), checkF d f) := by
    intro h; unfold verdict; rw [he]; simp only [h, Bool.false_eq_true, ↓reduceIte, check_of]; rfl
  have HR := Lib.hid (fun w1 h1 h2 => mread_calls (w := w1) (v := v) b h1 h2 hbl)
  rw [he] at HR
  unfold endHead at HR
  simp only at HR
  rw [hvH_of] at HR
  have HV1 := Lib.hid hv1
  have HV2 := Lib.hid hv2
  have HCK := Lib.hid (fun w1 h => check_calls (w := w1) d f h hl)
  have HAN := Lib.hid (ans_of (checkF d f) (check_four d f))
  generalize checkF d f = ck at HV2 HCK HAN
  have HB0 := Lib.hid hb
  have HBC := Lib.hid (fun w1 p cap cap2 p2 h h2 h3 => bcut_calls (w := w1) (p := p) (p2 := p2) (cap := cap) (cap2 := cap2) b 13 h h2 h3 hbl)
  obtain ⟨q, cap, rfl, _, _, _, _⟩ := hb
  clear he hv1 hv2 hl
  generalize verdict b = ver at HV1 HV2 ⊢
  go_enter Tryz.func77, Tryz.ntmps77
  go_wp2_with fail
  refine (HR.out _ (HB0.out.chg ((Chg.refl No w).alloc (.cells noCells 112)) (fun _ _ x => x)) (hg.no ((Chg.refl No w).alloc _))).mono ?_
  rintro e1 w1 ⟨rfl, hc⟩
  have hb1 := hc.heap (heap_alloc_new _ _) (fun x => x)
  have HC := Lib.hid (((Chg.refl No w).alloc _).trans hc)
  have HB1 := Lib.hid hb1
  clear hc hb1 HR
  go_wp2_with fail
  obtain ⟨W2, hW2⟩ : ∃ W2, (w1.alloc (.cells (headCells d f) 112)).alloc (.cells #[.int .u8 13] 5) = W2 := ⟨_, rfl⟩
  have hc2 : Chg No w1 W2 := by rw [← hW2]; exact ((Chg.refl No w1).alloc _).alloc _
  have hh2 : W2.heap[w1.heap.size]? = some (.cells (headCells d f) 112 (0, 0)) := by rw [← hW2]; exact heap_old_al (heap_alloc_new _ _) _
  have hs2 : Bs W2 (.slice (some ⟨w1.heap.size + 1, 0, none⟩) 1 1) [13] := by
    have := cells_bs (l := [13]) (heap_alloc_new (w1.alloc (.cells (headCells d f) 112)) (.cells #[.int .u8 13] 5)) rfl (by decide)
    rw [World.size_alloc] at this
    rw [← hW2]
    exact this
  have HC2 := Lib.hid (HC.out.trans hc2)
  have HB2 := Lib.hid (hc2.heap HB1.out (fun x => x))
  have HH2 := Lib.hid hh2
  have HS2 := Lib.hid hs2
  unfold headCells at hW2
  rw [hW2]
  clear hW2 hc2 hh2 hs2 HC HB1
  refine (HBC.out W2 q cap 1 _ (HB0.out.chg HC2.out (fun _ _ x => x)) HS2.out (hg.no HC2.out)).mono ?_
  rintro e2 w2 ⟨q1, n1, c1, u2, t, rfl, hfst, qn, rfl⟩
  have HIX := Lib.hid (indexByte_calls (hfst.chg ((Chg.refl No W2).drewN qn) (fun _ _ x => x)) 28)
  have hix := Lib.contains_iff_indexByte (upTo 13 b) 28
  have HC3 := Lib.hid (HC2.out.drewN qn)
  have HB3 : Hid ((W2.drewN qn).heap[w.heap.size]? = some (.cells noCells 112 (0, 0))) := Lib.hid HB2.out
  have HH3 : Hid ((W2.drewN qn).heap[w1.heap.size]? = some (.cells (headCells d f) 112 (0, 0))) := Lib.hid HH2.out
  have HIXE := Lib.hid hix
  generalize Lib.indexByte (upTo 13 b) 28 = ix at HIX HIXE
  generalize W2.drewN qn = W3 at HIX HC3 HB3 HH3 ⊢
  clear hfst hix HC2 HB2 HH2 HS2 HBC HB0
  go_wp2_with fail
  refine HIX.out.mono ?_
  rintro e3 w3 ⟨rfl, rfl⟩
  by_cases hi : 0 ≤ ix
  · obtain rfl := HV1.out (by rw [HIXE.out]; simp [hi])
    clear HV1 HV2
    go_wp2_with (refine wpList_store_row rfl 112 _ _ rfl w.heap.size noCells rfl rfl 112 _ HB3.out (by kernel_rfl) rfl one_none ?_; intro hb2 hc2; have HB4 := Lib.hid hb2; have HC4 := Lib.hid hc2; clear hb2 hc2)
    refine bodyPost_ret (results_cell_tmp2_row rfl _ _ w.heap.size 112 noCells (0, 0) _ rfl HB4.out Tryz.underlying112 rfl (by kernel_rfl)) rfl ⟨rfl, ?_⟩
    exact HC3.out.then HC4.out (by rintro i rfl; right; exact Nat.le_refl _)
  · obtain rfl := HV2.out (by rw [HIXE.out]; simp [hi])
    have hi' : ix < 0 := by omega
    clear HV1 HV2 hi
    have HCK3 := Lib.hid (HCK.out W3 (hg.no HC3.out))
    unfold hv at HCK3
    go_wp2_with (refine wpList_load_row rfl 112 _ rfl w1.heap.size rfl 112 _ (0, 0) _ HH3.out Tryz.underlying112 rfl (by kernel_rfl) ?_)
    refine HCK3.out.mono ?_
    rintro e4 w4 ⟨rfl, hc4⟩
    have HC4 := Lib.hid (HC3.out.trans hc4)
    have HB4 := Lib.hid (hc4.heap HB3.out (fun x => x))
    have HH4 := Lib.hid (hc4.heap HH3.out (fun x => x))
    clear hc4 HB3 HH3 HC3
    go_wp2_with fail
    obtain ⟨ia, hia⟩ := HAN.out
    have HIA := Lib.hid hia
    have HAD : Hid (∀ w9, IMapAt w9 w4.heap.size ansL → (Instr.lookup 186 (.map (some w4.heap.size)) (.int .i64 ck) false).run Tryz.prog w9 = .ok (.string (ofL (codeOf ck))) w9) :=
      Lib.hid fun w9 h => ilookup_found Tryz.underlying186 Tryz.underlying30 h ck HIA.out
    have HWS : Hid (w.heap.size < w4.heap.size ∧ w1.heap.size < w4.heap.size) := Lib.hid ⟨lt_of_heap HB4.out, lt_of_heap HH4.out⟩
    have HH4D : Hid (w4.drew.heap[w1.heap.size]? = some (.cells (headCells d f) 112 (0, 0))) := Lib.hid HH4.out
    have HAC : Hid (Calls Tryz.prog 110 #[] w4.drew fun e w' => e = .returned (.map (some w4.heap.size)) ∧ IMapAt w' w4.heap.size ansL ∧ Chg No w4.drew w') := Lib.hid (answers_calls w4.drew)
    clear hia HAN
    have l0 := cell_blk HH4D.out 0
    have l1 := cell_blk HH4D.out 1
    have l2 := cell_blk HH4D.out 2
    have l3 := cell_blk HH4D.out 3
    have l4 := cell_blk HH4D.out 4
    have l5 := cell_blk HH4D.out 5
    have l6 := cell_blk HH4D.out 6
    have l7 := cell_blk HH4D.out 7
    have l8 := cell_blk HH4D.out 8
    have l9 := cell_blk HH4D.out 9
    have l10 := cell_blk HH4D.out 10
    have l11 := cell_blk HH4D.out 11
    have l12 := cell_blk HH4D.out 12
    have l13 := cell_blk HH4D.out 13
    have l14 := cell_blk HH4D.out 14
    simp only [headCells, List.getElem?_toArray, List.getElem?_cons_succ, List.getElem?_cons_zero] at l0 l1 l2 l3 l4 l5 l6 l7 l8 l9 l10 l11 l12 l13 l14
    go_region_law ((go_simp; go_at_call 110; refine HAC.out.mono ?_; rintro e w9 ⟨rfl, hm9, hc9⟩; have hk9 := HAD.out w9 hm9; have hk9s := HAD.out (headSet w9 w.heap.size d f) (hm9.chg (headSet_chg w9 w.heap.size d f) (by have := HWS.out.1; intro h; omega)); unfold headSet at hk9s; have HH9 := Lib.hid (hc9.heap HH4D.out (fun x => x)); have HB9 : Hid (w9.heap[w.heap.size]? = some (.cells noCells 112 (0, 0))) := Lib.hid (hc9.heap (show w4.drew.heap[w.heap.size]? = _ from HB4.out) (fun x => x)); have HC9 := Lib.hid hc9; clear hm9 hc9; have m0 := cell_blk HH9.out 0; have m1 := cell_blk HH9.out 1; have m2 := cell_blk HH9.out 2; have m3 := cell_blk HH9.out 3; have m4 := cell_blk HH9.out 4; have m5 := cell_blk HH9.out 5; have m6 := cell_blk HH9.out 6; have m7 := cell_blk HH9.out 7; have m8 := cell_blk HH9.out 8; have m9 := cell_blk HH9.out 9; have m10 := cell_blk HH9.out 10; have m11 := cell_blk HH9.out 11; have m12 := cell_blk HH9.out 12; have m13 := cell_blk HH9.out 13; have m14 := cell_blk HH9.out 14; have r0 := cell_blk HB9.out 0; have r1 := cell_blk HB9.out 1; have r2 := cell_blk HB9.out 2; have r3 := cell_blk HB9.out 3; have r4 := cell_blk HB9.out 4; have r5 := cell_blk HB9.out 5; have r6 := cell_blk HB9.out 6; have r7 := cell_blk HB9.out 7; have r8 := cell_blk HB9.out 8; have r9 := cell_blk HB9.out 9; have r10 := cell_blk HB9.out 10; have r11 := cell_blk HB9.out 11; have r12 := cell_blk HB9.out 12; have r13 := cell_blk HB9.out 13; have r14 := cell_blk HB9.out 14; have g0 := free_blk HB9.out 0; have g1 := free_blk HB9.out 1; have g2 := free_blk HB9.out 2; have g3 := free_blk HB9.out 3; have g4 := free_blk HB9.out 4; have g5 := free_blk HB9.out 5; have g6 := free_blk HB9.out 6; have g7 := free_blk HB9.out 7; have g8 := free_blk HB9.out 8; have g9 := free_blk HB9.out 9; have g10 := free_blk HB9.out 10; have g11 := free_blk HB9.out 11; have g12 := free_blk HB9.out 12; have g13 := free_blk HB9.out 13; have g14 := free_blk HB9.out 14; simp only [headCells, noCells, List.getElem?_toArray, List.getElem?_cons_succ, List.getElem?_cons_zero] at m0 m1 m2 m3 m4 m5 m6 m7 m8 m9 m10 m11 m12 m13 m14 r0 r1 r2 r3 r4 r5 r6 r7 r8 r9 r10 r11 r12 r13 r14))
    all_goals
      have hE := headSet_heap HB9.out d f
      have hF : Chg No w (headSet w9 w.heap.size d f) := ((HC4.out.drew).trans HC9.out).then (headSet_chg w9 w.heap.size d f) (by rintro i rfl; right; exact Nat.le_refl _)
      unfold headSet at hE hF
      have HE := Lib.hid hE
      have HF := Lib.hid hF
      clear hE hF hk9 hk9s l0 l1 l2 l3 l4 l5 l6 l7 l8 l9 l10 l11 l12 l13 l14 m0 m1 m2 m3 m4 m5 m6 m7 m8 m9 m10 m11 m12 m13 m14 r0 r1 r2 r3 r4 r5 r6 r7 r8 r9 r10 r11 r12 r13 r14 g0 g1 g2 g3 g4 g5 g6 g7 g8 g9 g10 g11 g12 g13 g14
      go_wp2_with fail
      refine bodyPost_ret (results_cell_tmp2_row rfl _ _ w.heap.size 112 (headCells d f) (0, 0) _ rfl HE.out Tryz.underlying112 rfl (by kernel_rfl)) rfl ⟨rfl, HF.out⟩

theorem verdict_calls {w : World} {v : Value} (b : Bytes) (hb : Bs w v b) (hg : Glob w) (hbl : b.length ≤ 100000) :
    Calls Tryz.prog 77 #[v] w fun e' w' => e' = endVerdict (verdict b) ∧ Chg No w w' := by
  cases h : readHead b with
  | error e => exact verdict_error b hb hg (by omega) e h
  | ok hd =>
    obtain ⟨d, f, rfl, hl⟩ := readHead_head h
    exact verdict_ok b hb hg (by omega) d f h (fun i hi => by have := hl i hi; omega)
/-- The head of a verdict. -/
theorem verdict_head (b : Bytes) : ∃ d f, (verdict b).1 = headOf d f ∧ ∀ i < 10, (f i).length ≤ b.length := by
  cases h : readHead b with
  | error e =>
    refine ⟨⟨0, 0, 0, 0, 0⟩, fun _ => [], ?_, fun i _ => by simp⟩
    unfold verdict; rw [h]; rfl
  | ok hd =>
    obtain ⟨d, f, rfl, hl⟩ := readHead_head h
    by_cases hc : (upTo 13 b).contains 28 = true
    · refine ⟨⟨0, 0, 0, 0, 0⟩, fun _ => [], ?_, fun i _ => by simp⟩
      unfold verdict; rw [h]; simp only [hc, ↓reduceIte]; rfl
    · refine ⟨d, f, ?_, hl⟩
      unfold verdict; rw [h]; simp only [hc, Bool.false_eq_true, ↓reduceIte]
theorem verdict_code (b : Bytes) : (verdict b).2.1 = [] ∨ (verdict b).2.1 = aa ∨ (verdict b).2.1 = ae ∨ (verdict b).2.1 = ar := by
  unfold verdict
  split
  · exact .inl rfl
  · split
    · exact .inl rfl
    · simp only []
      split
      · exact .inr (.inl rfl)
      · split
        · exact .inr (.inr (.inl rfl))
        · split
          · exact .inr (.inr (.inr rfl))
          · exact .inl rfl
end Go.Proofs.YtgpmnicmgehmbaaGreatDoor


namespace Go.Proofs.YtgpmnicmgehmbaaGreatDoor
open Go.RowKit Lamp
set_option maxRecDepth 100000
set_option maxHeartbeats 400000

theorem index_neg_cons (b : UInt8) (l sub : Bytes) : (0 ≤ Lib.index (b :: l) sub) ↔ (sub.isPrefixOf (b :: l) = true ∨ 0 ≤ Lib.index l sub) := by
  have h0 := Lib.index_ge l sub
  rw [Lib.index]
  generalize Lib.index l sub = k at h0 ⊢
  split
  · rename_i h; simp [h]
  · rename_i h
    split
    · rename_i h2
      have h2 : k = -1 := by simpa using h2
      subst h2
      simp [h]
    · rename_i h2
      have h2 : k ≠ -1 := by simpa using h2
      constructor
      · intro _; right; omega
      · intro _; omega
theorem contains_ends : ∀ l : Bytes, Lib.contains l [28, 13] = endTail l
  | [] => by decide
  | c :: l => by
    have ih := contains_ends l
    unfold Lib.contains at ih ⊢
    rw [endTail, ← ih]
    rw [Bool.eq_iff_iff, decide_eq_true_iff, index_neg_cons]
    simp only [Bool.or_eq_true, decide_eq_true_eq, Bool.and_eq_true]
    constructor
    · rintro (h | h)
      · left
        cases l with
        | nil => simp [List.isPrefixOf] at h
        | cons d l => simp [List.isPrefixOf] at h ⊢; exact ⟨h.1.symm, h.2.symm⟩
      · exact .inr h
    · rintro (h | h)
      · left
        cases l with
        | nil => simp at h
        | cons d l => simp [List.isPrefixOf] at h ⊢; exact ⟨h.1.symm, h.2.symm⟩
      · exact .inr h

/-- The two bytes behind a frame. -/
theorem ends_bs (w : World) (T : TypeId) : Bs (w.alloc (.cells #[.int .u8 28, .int .u8 13] T)) (.slice (some ⟨w.heap.size, 0, none⟩) 2 2) [28, 13] := by
  refine ⟨_, 2, rfl, by decide, by decide, (fun h => by cases h), fun _ => ⟨w.heap.size, 0, rfl, fun i hi => ?_⟩⟩
  rw [cell_blk (heap_alloc_new w _)]
  have : i = 0 ∨ i = 1 := by
    have : i < 2 := hi
    omega
  rcases this with rfl | rfl <;> rfl

theorem Bs.shorter {w : World} {p : Option Addr} {n cap : Nat} {l : Bytes} (h : Bs w (.slice p n cap) l) (k : Nat) (hk : k ≤ n) : Bs w (.slice p k cap) (l.take k) := by
  have hn : n = l.length := by obtain ⟨_, _, hv, _⟩ := h; cases hv; rfl
  subst hn
  exact h.take k hk

theorem good_calls (w : World) (v : Value) (b : Bytes) (h : Bs w v b) (hl : b.length < 4294967281) (hg : Glob w) :
    Calls Tryz.prog 57 #[v] w fun e w' => e = .returned (.bool (frameGood b)) ∧ Chg No w w' := by
  have e0 := hg.e0
  have e1 := hg.e1
  have H := Lib.hid h
  have HG := Lib.hid hg
  clear h hg
  by_cases h1 : b.contains 11 = true
  · have hi := Lib.indexByte_ge b 11
    have h2 : 0 ≤ Lib.indexByte b 11 := by
      rcases Int.lt_or_le (Lib.indexByte b 11) 0 with h | h
      · rw [indexByte_neg] at h; rw [h] at h1; cases h1
      · exact h
    have h2' : decide (Lib.indexByte b 11 < 0) = false := by simpa using h2
    have hs : Hid (frameGood b = false) := by show _ = _; simp [frameGood]; simp at h1; simp [h1]
    rw [hs.out]
    clear h1
    go_enter Tryz.func57, Tryz.ntmps57
    go_wp2_with fail
    refine (indexByte_calls (H.out.chg ((Chg.refl No w).alloc _) (fun _ _ x => x)) 11).mono ?_
    rintro e w1 ⟨rfl, rfl⟩
    go_wp2_with fail
    go_ret
    exact ⟨rfl, (Chg.refl No w).alloc _⟩
  · have h2 : Lib.indexByte b 11 < 0 := by rw [indexByte_neg]; simpa using h1
    have h2' : decide (Lib.indexByte b 11 < 0) = true := by simpa using h2
    have HB := Lib.hid (ends_bs w 106)
    have hs : Hid (frameGood b = (!Lib.contains b [28, 13] && !Lib.hasSuffix b [28])) := by
      show _ = _
      rw [contains_ends, suffix_one]
      simp only [frameGood]
      rw [show b.contains 11 = false from by simpa using h1]
      rfl
    rw [hs.out]
    clear h1 hs
    cases hC : Lib.contains b [28, 13] with
    | true =>
      have HC := Lib.hid hC
      clear hC
      go_enter Tryz.func57, Tryz.ntmps57
      go_wp2_with fail
      refine (indexByte_calls (H.out.chg ((Chg.refl No w).alloc _) (fun _ _ x => x)) 11).mono ?_
      rintro e w1 ⟨rfl, rfl⟩
      go_wp2_with fail
      refine (contains_calls (H.out.chg ((Chg.refl No w).alloc _) (fun _ _ x => x)) HB.out hl (by decide) (HG.out.no ((Chg.refl No w).alloc _))).mono ?_
      rintro e w2 ⟨rfl, hc2⟩
      rw [HC.out]
      go_wp2_with fail
      go_ret
      exact ⟨rfl, ((Chg.refl No w).alloc _).trans hc2⟩
    | false =>
      have HC := Lib.hid hC
      clear hC
      go_enter Tryz.func57, Tryz.ntmps57
      go_wp2_with fail
      refine (indexByte_calls (H.out.chg ((Chg.refl No w).alloc _) (fun _ _ x => x)) 11).mono ?_
      rintro e w1 ⟨rfl, rfl⟩
      go_wp2_with fail
      refine (contains_calls (H.out.chg ((Chg.refl No w).alloc _) (fun _ _ x => x)) HB.out hl (by decide) (HG.out.no ((Chg.refl No w).alloc _))).mono ?_
      rintro e w2 ⟨rfl, hc2⟩
      rw [HC.out]
      go_wp2_with fail
      refine (hasSuffix_calls ((H.out.chg ((Chg.refl No w).alloc _) (fun _ _ x => x)).chg hc2 (fun _ _ x => x)) (((HB.out).shorter 1 (by decide)).chg hc2 (fun _ _ x => x))).mono ?_
      rintro e w3 ⟨rfl, rfl⟩
      go_wp2_with fail
      go_ret
      exact ⟨rfl, ((Chg.refl No w).alloc _).trans hc2⟩

theorem count_calls (n : Nat) (w : World) (h : n ≤ 140737488355328) : Calls Tryz.prog 58 #[.int .i64 n] w fun e w' => e = .returned (.int .i64 (n + 3)) ∧ w = w' := by
  go_enter Tryz.func58, Tryz.ntmps58
  go_wp2_with fail
  go_ret
  exact ⟨rfl, rfl⟩

theorem wrap_bad (w : World) (v : Value) (b : Bytes) (h : Bs w v b) (hl : b.length < 4294967281) (hg : Glob w) (hb : frameGood b = false) :
    Calls Tryz.prog 24 #[v] w fun e w' => e = .returned (.tuple #[.slice none 0 0, .int .i64 10]) ∧ Chg No w w' := by
  have HGD := Lib.hid (good_calls w v b h hl hg)
  rw [hb] at HGD
  clear h hg hb
  go_enter Tryz.func24, Tryz.ntmps24
  go_wp2_with fail
  refine HGD.out.mono ?_
  rintro e w1 ⟨rfl, hc⟩
  go_wp2_with fail
  go_ret2
  exact ⟨rfl, hc⟩

section
variable {w : World} {o : Oper} {a : Act} {Q : Exit → Act → World → Prop}
theorem wpList_appB0 {ops : Array Oper} {rest : List Oper} (hgd : o.guard = none) (s x : Operand)
    (ho : o.op = .call { callee := .builtin .append, args := #[s, x], argTypes := #[22, 22] })
    (v : Value) (l : Bytes) (hs : a.eval s = v) (hown : Own w 5 v (l.map u8)) (vx : Value) (b : Bytes) (hx : a.eval x = vx) (hsrc : Src w vx (b.map u8))
    (hlen : l.length + b.length ≤ 140737488355328)
    (h : ∀ q cap w', Own w' 5 (.slice q (l.length + b.length) cap) ((l ++ b).map u8) → Chg (fun k => v.ownBlock = some k) w w' →
      ((Value.slice q (l.length + b.length) cap).ownBlock = v.ownBlock ∨ (Value.slice q (l.length + b.length) cap).ownBlock = some w.heap.size) →
      wpList Tryz.prog ops Q rest (a.put o.dst (.slice q (l.length + b.length) cap)) w') : wpList Tryz.prog ops Q (o :: rest) a w :=
  wpList_plain hgd fun _ hK => wp_appB0 s x ho v l hs hown vx b hx hsrc hlen fun q cap w' h2 h3 h4 => hK _ _ (h q cap w' h2 h3 h4)
end
theorem run_makeB (w : World) (n : Nat) (hn : n ≤ 140737488355328) :
    ∃ w', (Instr.makeSlice 22 (.int .i64 0) (.int .i64 (n : Int))).run Tryz.prog w = .ok (.slice (some ⟨w.heap.size, 0, none⟩) 0 n) w' ∧ Own w' 5 (.slice (some ⟨w.heap.size, 0, none⟩) 0 n) [] ∧ Chg No w w' := by
  have he := elem_u8
  unfold Elem at he
  obtain ⟨i, hi, hx⟩ := Option.map_eq_some_iff.1 he
  simp only [Prod.mk.injEq] at hx
  obtain ⟨hz, hs, hb⟩ := hx
  obtain ⟨w', h1, h2, h3⟩ := run_make_own (w := w) 0 22 5 i (.int .u8 0) 1 Tryz.underlying22 hi hz hs .i64 .i64 n (by rw [hb]; omega) (by simp only [maxLen]; omega) (Nat.zero_le _)
  exact ⟨w', h1, h2, (Chg.of_grown h3).mono (fun _ _ x => by cases x)⟩

theorem wrap_good (w : World) (v : Value) (b : Bytes) (h : Bs w v b) (hl : b.length < 4294967281) (hg : Glob w) (hb : frameGood b = true) :
    Calls Tryz.prog 24 #[v] w fun e w' => ∃ gb cap, e = .returned (.tuple #[.slice (some ⟨gb, 0, none⟩) (frameWrap b).length cap, .int .i64 0]) ∧ Own w' 5 (.slice (some ⟨gb, 0, none⟩) (frameWrap b).length cap) ((frameWrap b).map u8) ∧ w.heap.size ≤ gb ∧ Chg No w w' := by
  have HGD := Lib.hid (good_calls w v b h hl hg)
  rw [hb] at HGD
  have H := Lib.hid h
  have HG := Lib.hid hg
  obtain ⟨q, cap, rfl, h1, h2, h3, h4⟩ := h
  clear hg hb h3 h4
  go_enter Tryz.func24, Tryz.ntmps24
  go_wp2_with fail
  refine HGD.out.mono ?_
  rintro e w1 ⟨rfl, hc1⟩
  go_wp2_with fail
  refine (count_calls b.length _ (by omega)).mono ?_
  rintro e w2 ⟨rfl, rfl⟩
  obtain ⟨w2, hmk, hown2, hc2⟩ := run_makeB w1 (b.length + 3) (by omega)
  rw [show ((b.length + 3 : Nat) : Int) = (b.length : Int) + 3 from by omega] at hmk
  have hsz := hc1.size
  have HC2 : Hid (Chg No w w2) := hc1.trans hc2
  have hO1 := hown2.alloc (.cells (([11] : Bytes).map u8).toArray 5)
  have hS1 := src_lit w2 [11] 5
  clear hc1 hc2 hown2
  have HN3 : Hid (∀ g3 : Nat, ((Value.slice (some ⟨w1.heap.size, 0, none⟩) 0 (b.length + 3)).ownBlock = some g3 ∨ g3 = (w2.alloc (.cells #[.int .u8 11] 5)).heap.size) → w.heap.size ≤ g3) := by
    intro g3 h
    have := HC2.out.size
    rcases h with h | h
    · simp [Value.ownBlock] at h; omega
    · simp at h; omega
  have HC3 : Hid (∀ w3, Chg (fun k => (Value.slice (some ⟨w1.heap.size, 0, none⟩) 0 (b.length + 3)).ownBlock = some k) (w2.alloc (.cells #[.int .u8 11] 5)) w3 → Chg No w w3) :=
    fun w3 h => (HC2.out.alloc _).then h (fun i hi => .inr (by simp [Value.ownBlock] at hi; omega))
  have HC4 : Hid (∀ w3 w4 g3 c3, w.heap.size ≤ g3 → Chg No w w3 → Chg (fun k => (Value.slice (some ⟨g3, 0, none⟩) 1 c3).ownBlock = some k) w3 w4 → Chg No w w4) :=
    fun w3 w4 g3 c3 hg h h2 => h.then h2 (fun i hi => .inr (by simp [Value.ownBlock] at hi; omega))
  have HS3 : Hid (∀ w3, Chg No w w3 → Src w3 (.slice q b.length cap) (b.map u8)) := fun w3 h => (H.out.chg h (fun _ _ x => x)).src
  go_wp2_with (at_builtin; first
    | (refine wpList_appB rfl _ _ rfl (.slice (some ⟨w1.heap.size, 0, none⟩) 0 (b.length + 3)) [] rfl hO1 _ [11] rfl hS1 ?o1 ?o2 ?_; (case o1 => simp); (case o2 => simp); intro g3 cap3 w3 hown3 hchg3 hblk3 hcap3; have hg3 := HN3.out g3 hblk3; have hc3 := HC3.out w3 hchg3)
    | (refine wpList_appB0 rfl _ _ rfl (.slice (some ⟨g3, 0, none⟩) 1 cap3) [11] rfl ?p1 _ b rfl ?p2 ?p3 ?_; (case p1 => exact hown3); (case p2 => exact HS3.out _ hc3); (case p3 => (simp; omega)); intro q4 cap4 w4 hown4 hchg4 hblk4; have hc4 := HC4.out _ _ _ _ hg3 hc3 hchg4; have g4 := HG.out.no hc4; have e0 := g4.e0; have e1 := g4.e1)
    | (refine wpList_appB rfl _ _ rfl (.slice q4 (1 + b.length) cap4) (11 :: b) rfl ?r1 _ [28, 13] rfl ?r2 ?r3 ?r4 ?_; (case r1 => exact hown4.alloc _); (case r2 => exact (ends_bs w4 106).src); (case r3 => simp); (case r4 => (simp; omega)); intro g5 cap5 w5 hown5 hchg5 hblk5 hcap5))
  go_ret2
  have hs3 := hc3.size
  have hs4 := hc4.size
  have hq : ∀ n c k, (Value.slice q4 n c).ownBlock = some k → w.heap.size ≤ k := by
    intro n c k hk
    cases q4 with
    | none => simp [Value.ownBlock] at hk
    | some ad =>
      simp [Value.ownBlock] at hk hblk4
      omega
  refine ⟨g5, cap5, by simp [frameWrap], by simpa [frameWrap] using hown5, ?_, ?_⟩
  · rcases hblk5 with e | e
    · exact hq _ _ _ e
    · simp at e
      omega
  · exact (hc4.alloc _).then hchg5 (fun i hi => .inr (hq _ _ _ hi))
end Go.Proofs.YtgpmnicmgehmbaaGreatDoor


namespace Go.Proofs.YtgpmnicmgehmbaaGreatDoor
open Go.RowKit Lamp
set_option maxRecDepth 100000
set_option maxHeartbeats 400000

theorem stored_calls {w : World} {v : Value} (b : Bytes) (hb : Bs w v b) (hg : Glob w) (hbl : b.length ≤ 100000) :
    Calls Tryz.prog 45 #[v] w fun e w' => e = .returned (.bool (Lamp.stored b)) ∧ Chg No w w' := by
  have HV := Lib.hid (verdict_calls b hb hg hbl)
  obtain ⟨d, f, hd, _⟩ := verdict_head b
  unfold endVerdict at HV
  rw [hd, hvH_of] at HV
  have hs : Lamp.stored b = ((verdict b).2.1 == [65, 65]) := rfl
  rw [hs]
  generalize (verdict b).2.1 = c at HV ⊢
  generalize (verdict b).2.2 = n at HV
  obtain ⟨q, cap, rfl, _, _, _, _⟩ := hb
  clear hs hd
  go_enter Tryz.func45, Tryz.ntmps45
  go_wp2_with fail
  refine HV.out.mono ?_
  rintro e w1 ⟨rfl, hc⟩
  have HC := Lib.hid hc
  clear hc
  go_wp2_with fail
  go_ret
  exact ⟨rfl, HC.out.alloc _⟩

/-- How a reply ends. -/
def endReply (w w' : World) (e : Ending) : Option Bytes → Prop
  | some r => ∃ q n c, e = .returned (.tuple #[.slice q n c, .bool true]) ∧ New w.heap.size w' (.slice q n c) r
  | none => e = .returned (.tuple #[.slice none 0 0, .bool false])

theorem reply_none1 (b : Bytes) (k : Bool) (h : (verdict b).2.1 = [] ∨ frameGood b = false) : reply b k = none := by
  unfold reply
  simp only []
  rw [if_pos h]
/-- The code that is answered. -/
def replyCode (b : Bytes) (k : Bool) : Bytes := if (verdict b).2.1 = aa ∧ k = false then ae else (verdict b).2.1
/-- The frame of an answer that was built. -/
def replyEnd : Except Int Bytes → Option Bytes
  | .error _ => none
  | .ok a => if frameGood a then some (frameWrap a) else none
theorem reply_build (b : Bytes) (k : Bool) (h1 : (verdict b).2.1 ≠ []) (h2 : frameGood b = true) : reply b k = replyEnd (ackBuild (verdict b).1 (replyCode b k)) := by
  unfold reply
  simp only []
  rw [if_neg (by simp [h1, h2])]
  rfl
theorem replyCode_known (b : Bytes) (k : Bool) (h1 : (verdict b).2.1 ≠ []) : known (replyCode b k) = true ∧ (replyCode b k).length ≤ 100 := by
  unfold replyCode
  split
  · exact ⟨rfl, by decide⟩
  · rcases verdict_code b with h | h | h | h
    · exact absurd h h1
    all_goals rw [h]; exact ⟨rfl, by decide⟩

theorem reply_none {w : World} {v : Value} (b : Bytes) (k : Bool) (hb : Bs w v b) (hg : Glob w) (hbl : b.length ≤ 100000) (h : (verdict b).2.1 = [] ∨ frameGood b = false) :
    Calls Tryz.prog 47 #[v, .bool k] w fun e w' => e = .returned (.tuple #[.slice none 0 0, .bool false]) ∧ Chg No w w' := by
  have HV := Lib.hid (verdict_calls b hb hg hbl)
  have HGD := Lib.hid (fun w1 h1 h2 => good_calls w1 v b h1 (by omega) h2)
  obtain ⟨d, f, hd, _⟩ := verdict_head b
  unfold endVerdict at HV
  rw [hd, hvH_of] at HV
  have hq : (verdict b).2.1.isEmpty = true ∨ ((verdict b).2.1.isEmpty = false ∧ frameGood b = false) := by
    by_cases h0 : (verdict b).2.1 = []
    · exact .inl (by simp [h0])
    · exact .inr ⟨by simpa using h0, h.resolve_left h0⟩
  generalize (verdict b).2.1 = c at HV hq
  generalize (verdict b).2.2 = n at HV
  generalize frameGood b = gd at HGD hq
  have HB := Lib.hid hb
  obtain ⟨q, cap, rfl, _, _, _, _⟩ := hb
  clear hd h
  rcases hq with h1 | ⟨h1, rfl⟩
  · go_enter Tryz.func47, Tryz.ntmps47
    go_wp2_with fail
    refine HV.out.mono ?_
    rintro e w1 ⟨rfl, hc⟩
    have HC := Lib.hid hc
    clear hc
    go_wp2_with fail
    go_ret2
    exact ⟨rfl, HC.out.alloc _⟩
  · go_enter Tryz.func47, Tryz.ntmps47
    go_wp2_with fail
    refine HV.out.mono ?_
    rintro e w1 ⟨rfl, hc⟩
    have HC := Lib.hid hc
    clear hc
    go_wp2_with fail
    refine (HGD.out _ (HB.out.chg (HC.out.alloc _) (fun _ _ x => x)) (hg.no (HC.out.alloc _))).mono ?_
    rintro e w2 ⟨rfl, hc2⟩
    have HC2 := Lib.hid ((HC.out.alloc _).trans hc2)
    clear hc2
    go_wp2_with fail
    go_ret2
    exact ⟨rfl, HC2.out⟩

theorem ackBuild_len (d : Delims) (f : Nat → Bytes) (hl : ∀ i < 10, (f i).length ≤ 100000) (c : Bytes) (hc : c.length ≤ 100) (a : Bytes) (h : ackBuild (headOf d f) c = .ok a) : a.length ≤ 2000000 := by
  have hal : ∀ i < 10, (ackF f i).length ≤ 100000 := ten (p := fun i => (ackF f i).length ≤ 100000) (hl 2 (by decide)) (hl 3 (by decide)) (hl 0 (by decide)) (hl 1 (by decide)) (hl 4 (by decide)) (by simp) (by simp) (hl 7 (by decide)) (hl 8 (by decide)) (hl 9 (by decide))
  unfold ackBuild at h
  split at h
  · cases h
  · rw [ackHead_of] at h
    cases hw : writeHead (headOf d (ackF f)) with
    | error e => rw [hw] at h; cases h
    | ok s =>
      rw [hw] at h
      injection h with h
      subst h
      have h1 := writeHead_len d (ackF f) hal s hw
      have h2 := sepJoin_len d.field 100000 [[77, 83, 65], c, f 7] (by
        intro x hx
        simp only [List.mem_cons, List.not_mem_nil, or_false] at hx
        rcases hx with rfl | rfl | rfl
        · simp
        · omega
        · exact hl 7 (by decide))
      have h3 : (make d [77, 83, 65] [c, f 7]).length ≤ 400000 := by
        unfold make
        rw [if_neg (by simp [msh])]
        exact Nat.le_trans h2 (by simp)
      show (join [s, make d [77, 83, 65] [c, f 7]]).length ≤ _
      simp only [join, List.flatMap_cons, List.flatMap_nil, List.length_append, List.length_cons, List.length_nil]
      omega

theorem reply_some {w : World} {v : Value} (b : Bytes) (k : Bool) (hb : Bs w v b) (hg : Glob w) (hbl : b.length ≤ 100000) (h1 : (verdict b).2.1 ≠ []) (h2 : frameGood b = true) :
    Calls Tryz.prog 47 #[v, .bool k] w fun e w' => endReply w w' e (reply b k) ∧ Chg No w w' := by
  rw [reply_build b k h1 h2]
  have HV := Lib.hid (verdict_calls b hb hg hbl)
  have HGD := Lib.hid (fun w1 h1 h2 => good_calls w1 v b h1 (by omega) h2)
  rw [h2] at HGD
  obtain ⟨d, f, hd, hlf⟩ := verdict_head b
  have hlf' : ∀ i < 10, (f i).length ≤ 100000 := fun i hi => Nat.le_trans (hlf i hi) hbl
  obtain ⟨hkn, hcl⟩ := replyCode_known b k h1
  unfold endVerdict at HV
  rw [hd, hvH_of] at HV
  rw [hd]
  have HBL := Lib.hid (fun w1 hg1 => build_calls (w := w1) d f (replyCode b k) hg1 hlf' hkn hcl)
  have HLEN := Lib.hid (ackBuild_len d f hlf' (replyCode b k) hcl)
  have HERR : Hid (∀ n, ackBuild (headOf d f) (replyCode b k) = .error n → (n != 0) = true) := Lib.hid (by
    intro n hn
    unfold ackBuild at hn
    rw [hkn] at hn
    simp only [Bool.true_eq_false, ↓reduceIte] at hn
    split at hn
    · rename_i e he
      injection hn with hn
      subst hn
      rcases writeHead_err _ _ he with rfl | rfl <;> rfl
    · cases hn)
  have hq : (verdict b).2.1.isEmpty = false := by simpa using h1
  have hcode : replyCode b k = if ((verdict b).2.1 == [65, 65]) = true ∧ k = false then ae else (verdict b).2.1 := by
    unfold replyCode
    simp only [beq_iff_eq]
    rfl
  generalize ackBuild (headOf d f) (replyCode b k) = res at HBL HLEN HERR ⊢
  generalize replyCode b k = rc at HBL hcode
  generalize (verdict b).2.1 = c at HV hq hcode
  generalize (verdict b).2.2 = n at HV
  have HB := Lib.hid hb
  have HCODE := Lib.hid hcode
  obtain ⟨q, cap, rfl, _, _, _, _⟩ := hb
  clear hd hkn hcl hlf hlf' h1 h2 hcode
  unfold hv at HBL
  go_enter Tryz.func47, Tryz.ntmps47
  go_wp2_with fail
  refine HV.out.mono ?_
  rintro e w1 ⟨rfl, hc⟩
  have HC := Lib.hid (hc.alloc (.cells (headCells d f) 112))
  have hh := heap_alloc_new w1 (.cells (headCells d f) 112)
  have HH := Lib.hid hh
  clear hc hh
  go_wp2_with fail
  refine (HGD.out _ (HB.out.chg HC.out (fun _ _ x => x)) (hg.no HC.out)).mono ?_
  rintro e w2 ⟨rfl, hc2⟩
  have HC2 := Lib.hid (HC.out.trans hc2)
  have HH2 := Lib.hid (hc2.heap HH.out (fun x => x))
  clear hc2 HC HH HB HV HGD
  cases hcc : (c == [65, 65])
  all_goals cases k
  all_goals
    have hrc := HCODE.out
    rw [hcc] at hrc
    simp only [Bool.false_eq_true, Bool.true_eq_false, and_true, and_false, ↓reduceIte] at hrc
    subst hrc
    clear HCODE
    go_wp2_with (refine wpList_load_row rfl 112 _ rfl w1.heap.size rfl 112 _ (0, 0) _ HH2.out Tryz.underlying112 rfl (by kernel_rfl) ?_)
  all_goals
    refine (HBL.out w2 (hg.no HC2.out)).mono ?_
    rintro e w3 ⟨hend, hc3⟩
    have HC3 := Lib.hid (HC2.out.trans hc3)
    have HZ2 := Lib.hid HC2.out.size
    clear hc3
    cases res with
    | error nn =>
      have hnn := HERR.out nn rfl
      obtain rfl : e = _ := hend
      go_wp2_with fail
      go_ret2
      exact ⟨rfl, HC3.out⟩
    | ok a =>
      obtain ⟨u, rfl, hnew⟩ := hend
      obtain ⟨qa, na, ca, rfl⟩ : ∃ qa na ca, u = .slice qa na ca := by
        obtain ⟨p', c', hv, _⟩ := hnew.bs
        exact ⟨p', _, c', hv⟩
      have hal := HLEN.out a rfl
      have HNEW := Lib.hid hnew
      clear hnew
      cases hga : frameGood a with
      | false =>
        have HW := Lib.hid (wrap_bad w3 _ a HNEW.out.bs (by omega) (hg.no HC3.out) hga)
        have HGA := Lib.hid hga
        clear hga
        go_wp2_with fail
        refine HW.out.mono ?_
        rintro e w4 ⟨rfl, hc4⟩
        have HC4 := Lib.hid (HC3.out.trans hc4)
        clear hc4
        go_wp2_with fail
        go_ret2
        refine ⟨?_, HC4.out⟩
        show endReply w w4 _ (replyEnd (.ok a))
        have hr : replyEnd (.ok a) = none := by simp only [replyEnd, HGA.out, Bool.false_eq_true, ↓reduceIte]
        rw [hr]
        exact (rfl : Ending.returned _ = Ending.returned _)
      | true =>
        have HW := Lib.hid (wrap_good w3 _ a HNEW.out.bs (by omega) (hg.no HC3.out) hga)
        have HGA := Lib.hid hga
        clear hga
        go_wp2_with fail
        refine HW.out.mono ?_
        rintro e w4 ⟨gb, cb, rfl, hown, hge, hc4⟩
        have HC4 := Lib.hid (HC3.out.trans hc4)
        have HOWN := Lib.hid hown
        have HGE := Lib.hid hge
        clear hc4 hown hge
        go_wp2_with fail
        go_ret2
        refine ⟨?_, HC4.out⟩
        show endReply w w4 _ (replyEnd (.ok a))
        have hr : replyEnd (.ok a) = some (frameWrap a) := by simp only [replyEnd, HGA.out, ↓reduceIte]
        rw [hr]
        refine ⟨_, _, _, rfl, HOWN.out, own_bytes HOWN.out (by simp [frameWrap]; omega), ?_⟩
        intro k hk
        have hk : gb = k := by simpa [Value.ownBlock] using hk
        have := HGE.out
        have := HC3.out.size
        omega

theorem reply_calls {w : World} {v : Value} (b : Bytes) (k : Bool) (hb : Bs w v b) (hg : Glob w) (hbl : b.length ≤ 100000) :
    Calls Tryz.prog 47 #[v, .bool k] w fun e w' => endReply w w' e (reply b k) ∧ Chg No w w' := by
  by_cases h : (verdict b).2.1 = [] ∨ frameGood b = false
  · rw [reply_none1 b k h]
    exact reply_none b k hb hg hbl h
  · simp only [not_or, Bool.not_eq_false] at h
    exact reply_some b k hb hg hbl h.1 h.2
end Go.Proofs.YtgpmnicmgehmbaaGreatDoor


namespace Go.Proofs.YtgpmnicmgehmbaaGreatDoor
open Go.RowKit Lamp Go.Conc

section
variable {P : Program} {ops : Array Oper} {Q : Exit → Act → World → Prop} {a : Act} {w : World}
/-- The rest of a region leads to Q. -/
def RunsTo (P : Program) (ops : Array Oper) (Q : Exit → Act → World → Prop) (l : List Nat) (a : Act) (w : World) : Prop :=
  ∀ (b : Frame) (k : List Item) (cs : List Frame), ∃ e a' w', Q e a' w' ∧ Arrives P (lone (b.at a (.inRegion ops l :: k)) cs w) b k cs e a' w'
theorem RunsTo.nil (h : Q .normal a w) : RunsTo P ops Q [] a w := fun _ _ _ => ⟨.normal, a, w, h, .one step_region_end⟩
theorem wp_of_runs {id : Nat} (h : RunsTo P ops Q (List.range ops.size) a w) : (Code.region id ops false).wp P Q a w :=
  fun b k cs => let ⟨e, a', w', q, r⟩ := h b k cs; ⟨e, a', w', q, .of_steps (.one step_region) r⟩
/-- An operation that yields a value. -/
theorem RunsTo.value {i : Nat} {rest : List Nat} {o : Oper} {v : Value} {w' : World} (ho : ops[i]? = some o) (hg : o.guard = none) (hr : (execOp a.eval o).run P w = .ok (.value v) w')
    (h : RunsTo P ops Q rest (a.put o.dst v) w') : RunsTo P ops Q (i :: rest) a w := by
  intro b k cs
  obtain ⟨e, a', w'', hq, harr⟩ := h b k cs
  have hw : Region.wanted o (yielded ops a.tmps) = true := by simp [Region.wanted, hg]
  have hst := stepG_op (P := P) (b := b) (k := k) (cs := cs) (w := w) (rest := rest) ho hw
  have hfin : (b.at a (.inRegion ops (i :: rest) :: k)).finish v = b.at (a.put o.dst v) (.inRegion ops rest :: k) := by rw [Frame.finish_at, ho]; rfl
  refine ⟨e, a', w'', hq, .of_steps (.one (step_lone_go ?_)) harr⟩
  rw [hst, ← hfin]
  simp [stepG.apply, hr]
/-- A send into a buffer with room. -/
theorem RunsTo.send {i : Nat} {rest : List Nat} {o : Oper} {ch x : Operand} {c cap s r : Nat} {buf : Array Value} {v : Value} {tm : Bool} (ho : ops[i]? = some o) (hg : o.guard = none) (hop : o.op = .send ch x) (hch : a.eval ch = .chan (some c)) (hv : a.eval x = v)
    (hc : w.heap[c]? = some (.chan cap buf false s r tm)) (hroom : buf.size < cap)
    (h : RunsTo P ops Q rest (a.put o.dst undef) (w.setChan c cap (buf.push v) false (s + 1) r tm)) : RunsTo P ops Q (i :: rest) a w := by
  intro b k cs
  obtain ⟨e, a', w'', hq, harr⟩ := h b k cs
  have hw : Region.wanted o (yielded ops a.tmps) = true := by simp [Region.wanted, hg]
  have hst := stepG_op (P := P) (b := b) (k := k) (cs := cs) (w := w) (rest := rest) ho hw
  have hfin : (b.at a (.inRegion ops (i :: rest) :: k)).finish undef = b.at (a.put o.dst undef) (.inRegion ops rest :: k) := by rw [Frame.finish_at, ho]; rfl
  have hr : (execOp a.eval o).run P w = .ok (.comm #[{ chan := .chan (some c), send := some v, zero := .tuple #[] }] true .send) w := by
    unfold execOp
    simp [hop, hch, hv]
  obtain ⟨es, hes⟩ : ∃ es, stepG P true (G (b.at a (.inRegion ops (i :: rest) :: k)) cs) w = .comm (G (b.at a (.inRegion ops (i :: rest) :: k)) cs) #[scase c v (.tuple #[])] true .send w es := by
    rw [show (G (b.at a (.inRegion ops (i :: rest) :: k)) cs : Goroutine) = { frame := b.at a (.inRegion ops (i :: rest) :: k), callers := cs, status := .running, dying := none } from rfl, hst]
    simp only [stepG.apply, Sem.runT_eq, hr, scase, GStep.after]
    exact ⟨_, rfl⟩
  refine ⟨e, a', w'', hq, .of_steps (.one ?_) harr⟩
  rw [lone_eq_solo, lone_eq_solo, ← hfin]
  exact step_lone_send_room hes hc hroom
/-- A receive from a buffer that holds something. -/
theorem RunsTo.recv {i : Nat} {rest : List Nat} {o : Oper} {ch : Operand} {T e0 : TypeId} {dir : ChanDir} {c cap s r : Nat} {buf : Array Value} {z : Value} {tm : Bool} (ho : ops[i]? = some o) (hg : o.guard = none) (hop : o.op = .recv T ch false) (hch : a.eval ch = .chan (some c))
    (hT : P.underlying T = some (.chan dir e0)) (hz : ∀ w, (zeroValue e0).run P w = .ok z w) (hc : w.heap[c]? = some (.chan cap buf false s r tm)) (hsome : 0 < buf.size)
    (h : RunsTo P ops Q rest (a.put o.dst (buf.getD 0 undef)) (w.setChan c cap (buf.extract 1 buf.size) false s (r + 1) tm)) : RunsTo P ops Q (i :: rest) a w := by
  intro b k cs
  obtain ⟨e, a', w'', hq, harr⟩ := h b k cs
  have hw : Region.wanted o (yielded ops a.tmps) = true := by simp [Region.wanted, hg]
  have hst := stepG_op (P := P) (b := b) (k := k) (cs := cs) (w := w) (rest := rest) ho hw
  have hfin : (b.at a (.inRegion ops (i :: rest) :: k)).finish (buf.getD 0 undef) = b.at (a.put o.dst (buf.getD 0 undef)) (.inRegion ops rest :: k) := by rw [Frame.finish_at, ho]; rfl
  have hr : (execOp a.eval o).run P w = .ok (.comm #[{ chan := .chan (some c), send := none, zero := z }] true (.recv false)) w := by
    unfold execOp
    simp [hop, hch, run_underlying hT, hz]
  obtain ⟨es, hes⟩ : ∃ es, stepG P true (G (b.at a (.inRegion ops (i :: rest) :: k)) cs) w = .comm (G (b.at a (.inRegion ops (i :: rest) :: k)) cs) #[rcase c z] true (.recv false) w es := by
    rw [show (G (b.at a (.inRegion ops (i :: rest) :: k)) cs : Goroutine) = { frame := b.at a (.inRegion ops (i :: rest) :: k), callers := cs, status := .running, dying := none } from rfl, hst]
    simp only [stepG.apply, Sem.runT_eq, hr, rcase, GStep.after]
    exact ⟨_, rfl⟩
  refine ⟨e, a', w'', hq, .of_steps (.one ?_) harr⟩
  rw [lone_eq_solo, lone_eq_solo, ← hfin]
  exact step_lone_recv_buf false hes hc hsome
end
end Go.Proofs.YtgpmnicmgehmbaaGreatDoor
