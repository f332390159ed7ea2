/- The law: InboxPieces.
   Arguments of a call, opened: bytes, numbers.
   Arguments of a call, opened: more kinds.
   The law: InboxNone.
   What a row's list of variables gives: Glob.
   A world for InboxNone's witness.
   InboxPieces: in whatever pieces bytes come to an inbox, the answers and the records are the same: the row and its tied card. -/
import Derived.Test.YtgpmnicmgehmbaaGreatDoorP01
import Derived.Deep.Cut
import Derived.Deep.CutRange
import Derived.Test.YtgpmnicmgehmbaaGreatDoorB12
import Derived.WalkKit
import Derived.ProofKit
import Derived.OpenShut
import Derived.Test.YtgpmnicmgehmbaaGreatDoorCards
import Derived.Test.YtgpmnicmgehmbaaGreatDoorTie
import Derived.Deep.DeepHandedRow
import Derived.Lib.LaidTab
import Derived.LaidSub
import Derived.SevenTiedAt

namespace Go.Proofs.YtgpmnicmgehmbaaGreatDoor
open Go.RowKit Lamp Go.Conc
set_option maxRecDepth 100000
set_option maxHeartbeats 1000000

def roomOf (n : Int) : Int := n % 18446744073709551616 % 3000
def mostOf (n : Int) : Int := 1 + n % 18446744073709551616 % 600
theorem roomOf_in (n : Int) : 0 ≤ roomOf n ∧ roomOf n < 3000 := by unfold roomOf; omega
theorem mostOf_in (n : Int) : 1 ≤ mostOf n ∧ mostOf n ≤ 600 := by unfold mostOf; omega
theorem wrapU (n : Int) : IntKind.u64.wrap n = n % 18446744073709551616 := by
  first | rfl | (simp [IntKind.wrap]; done) | (unfold IntKind.wrap; simp; done)
theorem remU (n m : Int) (h0 : 0 < m) (h1 : m ≤ 1000000) : wrap64 ((IntKind.u64.wrap n).tmod m) = n % 18446744073709551616 % m := by
  rw [wrapU]
  have h2 : 0 ≤ n % 18446744073709551616 := by omega
  rw [Int.tmod_eq_emod_of_nonneg h2]
  have h3 := Int.emod_nonneg (n % 18446744073709551616) (show m ≠ 0 by omega)
  have h4 := Int.emod_lt_of_pos (n % 18446744073709551616) h0
  unfold wrap64
  omega
theorem room_calls (w : World) (n : Int) : Calls Tryz.prog 14 #[.int .i64 n] w fun e w' => e = .returned (.int .i64 (roomOf n)) ∧ w = w' := by
  go_enter Tryz.func14, Tryz.ntmps14
  go_wp2_with fail
  go_ret
  exact ⟨congrArg (fun x => Ending.returned (.int .i64 x)) (remU n 3000 (by decide) (by decide)), rfl⟩
theorem most_calls (w : World) (n : Int) : Calls Tryz.prog 15 #[.int .i64 n] w fun e w' => e = .returned (.int .i64 (mostOf n)) ∧ w = w' := by
  go_enter Tryz.func15, Tryz.ntmps15
  go_wp2_with fail
  go_ret
  refine ⟨congrArg (fun x => Ending.returned (.int .i64 x)) (show wrap64 (1 + wrap64 _) = _ from ?_), rfl⟩
  rw [remU n 600 (by decide) (by decide)]
  unfold mostOf wrap64
  omega

theorem Bs.drop {w : World} {q : Option Addr} {cap n : Nat} {b : Bytes} (h : Bs w (.slice q n cap) b) (k : Nat) (hk : k ≤ b.length) :
    Bs w (.slice (if cap = k then q else q.map (fun x => x.add k)) (n - k) (cap - k)) (b.drop k) ∧ ∀ i, (Value.slice (if cap = k then q else q.map (fun x => x.add k)) (n - k) (cap - k)).ownBlock = some i → (Value.slice q n cap).ownBlock = some i := by
  obtain ⟨p, c2, hv, h1, h2, h3, h4⟩ := h
  injection hv with e1 e2 e3
  subst e1 e2 e3
  have hl : (b.drop k).length = b.length - k := by simp
  have hsub : ∀ i, (Value.slice (if cap = k then q else q.map (fun x => x.add k)) (b.length - k) (cap - k)).ownBlock = some i → (Value.slice q b.length cap).ownBlock = some i := by
    intro i hi
    by_cases e : cap = k
    · rw [if_pos e] at hi
      cases q with
      | none => simp [Value.ownBlock] at hi
      | some a => exact hi
    · rw [if_neg e] at hi
      cases q with
      | none => simp [Value.ownBlock] at hi
      | some a =>
        have : (a.add k).block = a.block := by unfold Addr.add; split <;> rfl
        simp only [Option.map_some, Value.ownBlock, this] at hi ⊢
        exact hi
  refine ⟨⟨_, cap - k, by rw [hl], by rw [hl]; omega, by rw [hl]; omega, fun hn => ?_, ?_⟩, hsub⟩
  · by_cases e : cap = k
    · omega
    · rw [if_neg e] at hn
      cases q with
      | none => have := h3 rfl; omega
      | some a => simp at hn
  · intro hpos
    rw [hl] at hpos
    rw [if_neg (by omega)]
    obtain ⟨bb, o, rfl, hx⟩ := h4 (by omega)
    refine ⟨bb, o + k, ?_, fun i hi => ?_⟩
    · simp only [Option.map_some, addr_add]
    · rw [hl] at hi
      rw [Nat.add_assoc, hx (k + i) (by omega), nums_getD b (k + i) (by omega), nums_getD _ i (by rw [hl]; omega)]
      simp
section
variable {w W W' : World} {px pl pd py ql qd k : Nat} {v : Value} {s : Lamp.Sys} {Gx Gy : List Nat}
theorem pieces_end (hT : Two w W px pl pd py ql qd s s v [] Gx Gy) (hgood : s.Good k) (hk : k ≤ 2000) (htold : s.Told 0) :
    Calls Tryz.prog 11 #[.pointer (some ⟨px, 0, none⟩)] W fun e w1 => ∃ q n c, e = .returned (.slice q n c) ∧
      Calls Tryz.prog 11 #[.pointer (some ⟨py, 0, none⟩)] w1 fun e w2 => ∃ q2 n2 c2, e = .returned (.slice q2 n2 c2) ∧
        Calls Tryz.prog 12 #[.slice q n c, .slice q2 n2 c2] w2 fun e w3 => e = .returned (.bool true) ∧ Chg No w w3 ∧
          (Calls Tryz.prog 16 #[.pointer (some ⟨pl, 0, none⟩)] w3 fun e w' => e = .returned (.int .i64 s.log.l.length) ∧ w3 = w') ∧
          (Calls Tryz.prog 16 #[.pointer (some ⟨ql, 0, none⟩)] w3 fun e w' => e = .returned (.int .i64 s.log.l.length) ∧ w3 = w') ∧
          (Calls Tryz.prog 17 #[.pointer (some ⟨pl, 0, none⟩)] w3 fun e w' => e = .returned (.int .i64 s.log.good) ∧ w3 = w') ∧
          (Calls Tryz.prog 17 #[.pointer (some ⟨ql, 0, none⟩)] w3 fun e w' => e = .returned (.int .i64 s.log.good) ∧ w3 = w') ∧
          (Calls Tryz.prog 18 #[.pointer (some ⟨px, 0, none⟩)] w3 fun e w' => e = .returned (.int .i64 s.box.d.held) ∧ w3 = w') ∧
          (Calls Tryz.prog 18 #[.pointer (some ⟨py, 0, none⟩)] w3 fun e w' => e = .returned (.int .i64 s.box.d.held) ∧ w3 = w') := by
  have hs1 := hgood.fine.seen1
  have hd : (s.box.d.now.length : Int) ≤ 65536 := Int.le_trans hgood.ok.now hgood.ok.m2
  refine (takeBox_calls hT.x (by omega)).mono ?_
  rintro e w1 ⟨v1, rws1, Gx', rfl, h1⟩
  obtain ⟨q1, c1, hv1⟩ := h1.own.sliceOf
  have hyl := hT.y.lt
  have hxl := hT.x.lt
  have hdis : ∀ k ∈ Gy, k ∉ Gx := fun k hk hx => (hT.gx k hx).2 hk
  have hy1 := hT.y.kept h1.chg hdis
  subst hv1
  refine ⟨q1, _, c1, rfl, (takeBox_calls hy1 (by omega)).mono ?_⟩
  rintro e w2 ⟨v2, rws2, Gy', rfl, h2⟩
  obtain ⟨q2, c2, hv2⟩ := h2.own.sliceOf
  subst hv2
  have hx2 := h1.box.kept h2.chg (fun k hk hy => hdis k hy (h1.sub k hk))
  have hr1 : Rs w2 _ (rws1.map (·.2)) := Rs.of_own (h1.own.kept h2.chg (fun b hb hy => by have := h1.new b hb; have := hyl b hy; omega)) (fun r hr => (h1.each r hr).1.chg h2.chg (fun k hk hy => hdis k hy ((h1.each r hr).2 k hk).1))
  have hr2 : Rs w2 _ (rws2.map (·.2)) := Rs.of_own h2.own (fun r hr => (h2.each r hr).1)
  have heq : rws1.map (·.2) = rws2.map (·.2) := h1.told.symm.trans h2.told
  have hl1 : rws1.length ≤ 2000 := by
    have h3 := htold
    unfold Sys.Told at h3
    rw [h1.told, List.length_map, Nat.zero_add] at h3
    omega
  refine ⟨q2, _, c2, rfl, (same_calls hr1 hr2 (by simp; omega)).mono ?_⟩
  rintro e w3 ⟨rfl, n, rfl⟩
  have hc3 : Chg No w (w2.drewN n) := ((hT.chg.then h1.chg (fun i hi => .inr (hT.gx i hi).1)).then h2.chg (fun i hi => .inr (hT.gy i hi))).drewN n
  have hx3 := hx2.kept ((Chg.refl No w2).drewN n) (fun _ _ x => x)
  have hy3 := h2.box.kept ((Chg.refl No w2).drewN n) (fun _ _ x => x)
  obtain ⟨F1, hF1⟩ := hx3.logAt
  obtain ⟨F2, hF2⟩ := hy3.logAt
  exact ⟨by rw [heq]; simp, hc3, logLen_calls hF1, logLen_calls hF2, logGood_calls hF1, logGood_calls hF2, heldBox_calls (s := { s with box := { s.box with out := [] } }) hx3 hd, heldBox_calls (s := { s with box := { s.box with out := [] } }) hy3 hd⟩
end

/-- The loop's state: the second one was fed the first bytes. -/
def PiecesAt (w W : World) (px pl pd py ql qd : Nat) (r m : Int) (b : Bytes) (v : Value) : Prop :=
  ∃ j Gx Gy, j ≤ b.length ∧ Two w W px pl pd py ql qd ((fresh r m).feed b).1 ((fresh r m).feed (b.take j)).1 (.slice none 0 0) [] Gx Gy ∧ Bs w v (b.drop j) ∧ ∀ k, v.ownBlock = some k → k < w.heap.size
section
variable {w W W' : World} {px pl pd py ql qd : Nat} {r m : Int} {b : Bytes}
theorem PiecesAt.fed {q : Option Addr} {n c k : Nat} (hg : Glob w) (h6 : 6 ≤ w.heap.size) (hfr : (fresh r m).Good 0) (hl : b.length ≤ 2000) (h : PiecesAt w W px pl pd py ql qd r m b (.slice q n c)) (hk : k ≤ n) :
    Calls Tryz.prog 10 #[.pointer (some ⟨py, 0, none⟩), .slice q k c] W fun e w' => e = .returned (.int .i64 0) ∧
      PiecesAt w w' px pl pd py ql qd r m b (.slice (if c = k then q else q.map (fun x => x.add k)) (n - k) (c - k)) ∧
      (k = n → ∃ Gx Gy, Two w w' px pl pd py ql qd ((fresh r m).feed b).1 ((fresh r m).feed b).1 (.slice none 0 0) [] Gx Gy) := by
  obtain ⟨j, Gx, Gy, hj, hT, hbw, hlt⟩ := h
  have hb := hbw.chg hT.chg (fun _ _ x => x)
  have hn : n = (b.drop j).length := by
    obtain ⟨p, cap, hv, _⟩ := hb
    injection hv
  subst hn
  have hg1 := hfr.feed (b.take j)
  have htl : (b.take j).length = j := by simp; omega
  have hpl : ((b.drop j).take k).length = k := by simp at hk ⊢; omega
  rw [htl, Nat.zero_add] at hg1
  have hbt := hb.take k hk
  simp only [List.length_drop] at hk
  refine (hT.feedy hg h6 _ _ hbt (fun i hi hx => by have := hT.gy i hx; have := hlt i (by cases q with | none => simp [Value.ownBlock] at hi | some a => exact hi); omega) hg1.fine (by rw [hpl]; omega) hg1.ok (by rw [hpl]; omega) hg1.calm).mono ?_
  rintro e w' ⟨rfl, Gy', hT'⟩
  have hcat : b.take j ++ (b.drop j).take k = b.take (j + k) := by rw [List.take_add]
  rw [← Sys.feed_app hfr.calm, hcat] at hT'
  refine ⟨rfl, ⟨j + k, Gx, Gy', by omega, hT', ?_, ?_⟩, ?_⟩
  · have h1 := (hbw.drop k (by rw [List.length_drop]; exact hk)).1
    rw [List.drop_drop] at h1
    exact h1
  · exact fun i hi => hlt i ((hb.drop k (by rw [List.length_drop]; exact hk)).2 i hi)
  · intro hkn
    subst hkn
    rw [List.length_drop, show j + (b.length - j) = b.length by omega, List.take_length] at hT'
    exact ⟨Gx, Gy', hT'⟩
end

set_option maxHeartbeats 8000000 in
theorem pieces_long (w : World) (n0 n1 : Int) (vb : Value) (b : Bytes) (qc : Option Addr) (nc cc : Nat) (cs : List Int) (hg : Glob w) (h6 : 6 ≤ w.heap.size) (hb : Bs w vb b) (hblt : ∀ k, vb.ownBlock = some k → k < w.heap.size) (hl : b.length ≤ 2000) (hlc : nc ≤ 60) (hcs : cs.length = nc)
    (hcell : ∀ i, i < nc → ∃ g o, qc = some ⟨g, o, none⟩ ∧ w.cell? ⟨g, o + i, none⟩ = some (.int .i64 (cs.getD i 0))) :
    Calls Tryz.prog 4 #[.agg #[.int .i64 n0, .int .i64 n1], vb, .slice qc nc cc] w fun e w' => e = .returned (.bool true) ∧ Chg No w w' := by
  have HB := Lib.hid hb
  obtain ⟨p, cap, rfl, _, _, _, hby⟩ := hb
  have hl2 : decide ((2000 : Int) < b.length) = false := by rw [decide_eq_false_iff_not]; omega
  have hl3 : decide ((60 : Int) < nc) = false := by rw [decide_eq_false_iff_not]; omega
  obtain ⟨W, hW⟩ : ∃ W, w.alloc (.cells #[.int .i64 n0, .int .i64 n1] 36) = W := ⟨_, rfl⟩
  have hcW : Chg No w W := by rw [← hW]; exact (Chg.refl No w).alloc _
  have HAL := Lib.hid (alive_calls W (hg.no hcW) (Nat.le_trans h6 hcW.size))
  have HG := Lib.hid hg
  have H6 := Lib.hid h6
  have HBY := Lib.hid hby
  have HL := Lib.hid hl
  have HCW := Lib.hid hcW
  have HCS := Lib.hid hcs
  have HCELL := Lib.hid hcell
  clear hg h6 hl hby hcW hcs hcell
  have HBLT := Lib.hid hblt
  clear hblt
  go_enter Tryz.func4, Tryz.ntmps4
  go_wp2_with fail
  refine HAL.out.mono ?_
  rintro e w1 ⟨rfl, hc1⟩
  have hb1 := hc1.heap (show W.heap[w.heap.size]? = some (.cells #[.int .i64 n0, .int .i64 n1] 36 (0, 0)) by rw [← hW]; exact heap_alloc_new w _) (fun x => x)
  have c0 := cell_blk hb1 0
  have c1 := cell_blk hb1 1
  simp only [List.getElem?_toArray, List.getElem?_cons_zero, List.getElem?_cons_succ] at c0 c1
  have HB1 := Lib.hid hb1
  have HC1 := Lib.hid hc1
  clear hb1 hc1 HAL hW
  go_upto_region 3 with fail
  go_cut [7, 8, 9] from 30 to 40 (fun s7 s8 s9 wx => ∃ pd pl px G, s7 = .pointer (some ⟨pd, 0, none⟩) ∧ s8 = .pointer (some ⟨pl, 0, none⟩) ∧ s9 = .pointer (some ⟨px, 0, none⟩) ∧ InAt wx px pl pd (fresh (roomOf n0) (mostOf n1)) G ∧ Chg No w1 wx ∧ ∀ k ∈ G, w1.heap.size ≤ k)
  case first =>
    go_region_law ((first
    | (go_simp; go_at_call 14; refine (room_calls _ _).mono ?_; rintro e w9 ⟨rfl, rfl⟩)
    | (go_simp; go_at_call 15; refine (most_calls _ _).mono ?_; rintro e w9 ⟨rfl, rfl⟩)
    | (go_simp; go_at_call 9; refine (beginBox_calls _ (roomOf n0) (mostOf n1) (roomOf_in n0).1 (by have := roomOf_in n0; omega) (mostOf_in n1).1 (by have := mostOf_in n1; omega)).mono ?_; rintro e w2 ⟨pd, pl, px, G, rfl, hin, hc2, hG⟩)))
    all_goals
      have HX : Hid (InAt w2 px pl pd (fresh (roomOf n0) (mostOf n1)) G ∧ Chg No w1 w2 ∧ ∀ k ∈ G, w1.heap.size ≤ k) := ⟨hin, ⟨hc2.os, hc2.tape, hc2.output, hc2.size, hc2.block⟩, hG⟩
      clear hin hc2 hG c0 c1
      go_wp2_with fail
      go_meet
      exact ⟨pd, pl, px, G, rfl, rfl, rfl, HX.out⟩
  case rest =>
  clear c0 c1
  obtain ⟨pd, pl, px, G, rfl, rfl, rfl, hin, hc2, hG⟩ := hcut
  have hb2 := hc2.heap HB1.out (fun x => x)
  have c0 := cell_blk hb2 0
  have c1 := cell_blk hb2 1
  simp only [List.getElem?_toArray, List.getElem?_cons_zero, List.getElem?_cons_succ] at c0 c1
  have HI2 := Lib.hid hin
  have HC2 := Lib.hid hc2
  have HG2 := Lib.hid hG
  clear hin hc2 hG hb2
  go_upto_region 4 with fail
  go_cut [10, 11, 12] from 41 to 51 (fun s10 s11 s12 wx => ∃ qd ql py H, s10 = .pointer (some ⟨qd, 0, none⟩) ∧ s11 = .pointer (some ⟨ql, 0, none⟩) ∧ s12 = .pointer (some ⟨py, 0, none⟩) ∧ InAt wx py ql qd (fresh (roomOf n0) (mostOf n1)) H ∧ Chg No wc wx ∧ ∀ k ∈ H, wc.heap.size ≤ k)
  case first =>
    go_region_law ((first
    | (go_simp; go_at_call 14; refine (room_calls _ _).mono ?_; rintro e w9 ⟨rfl, rfl⟩)
    | (go_simp; go_at_call 15; refine (most_calls _ _).mono ?_; rintro e w9 ⟨rfl, rfl⟩)
    | (go_simp; go_at_call 9; refine (beginBox_calls _ (roomOf n0) (mostOf n1) (roomOf_in n0).1 (by have := roomOf_in n0; omega) (mostOf_in n1).1 (by have := mostOf_in n1; omega)).mono ?_; rintro e w2 ⟨qd, ql, py, H, rfl, hin, hc2, hG⟩)))
    all_goals
      have HX : Hid (InAt w2 py ql qd (fresh (roomOf n0) (mostOf n1)) H ∧ Chg No wc w2 ∧ ∀ k ∈ H, wc.heap.size ≤ k) := ⟨hin, ⟨hc2.os, hc2.tape, hc2.output, hc2.size, hc2.block⟩, hG⟩
      clear hin hc2 hG
      go_wp2_with fail
      go_meet
      exact ⟨qd, ql, py, H, rfl, rfl, rfl, HX.out⟩
  case rest =>
  obtain ⟨qd, ql, py, H, rfl, rfl, rfl, hin, hc3, hH⟩ := hcut
  have hT : Two w wc px pl pd py ql qd (fresh (roomOf n0) (mostOf n1)) (fresh (roomOf n0) (mostOf n1)) (.slice none 0 0) [] G H :=
    Two.new ((HCW.out.trans HC1.out).trans HC2.out) HI2.out (fun k hk => by have := HG2.out k hk; have := HCW.out.size; have := HC1.out.size; omega) hc3 hin hH
  have hgood := fresh_good (roomOf n0) (mostOf n1) (roomOf_in n0).1 (by have := roomOf_in n0; omega) (mostOf_in n1).1 (by have := mostOf_in n1; omega)
  have HF := Lib.hid (hT.feedx (n := 0) (N := 0) HG.out H6.out _ b (HB.out.chg hT.chg (fun _ _ x => x)) (fun k hk hx => by have := (hT.gx k hx).1; have := HBLT.out k hk; omega) hgood.fine (by have := HL.out; omega) hgood.ok (by have := HL.out; omega) hgood.calm)
  clear hT hin hc3 hH HI2 HC2 HG2 HC1 HB1 c0 c1 hgood
  go_wp2_with fail
  refine HF.out.mono ?_
  rintro e w5 ⟨rfl, Gx, hT⟩
  have HFR := Lib.hid (fresh_good (roomOf n0) (mostOf n1) (roomOf_in n0).1 (by have := roomOf_in n0; omega) (mostOf_in n1).1 (by have := mostOf_in n1; omega))
  have HT : Hid (PiecesAt w w5 px pl pd py ql qd (roomOf n0) (mostOf n1) b (.slice p b.length cap)) := ⟨0, Gx, H, Nat.zero_le _, hT, HB.out, HBLT.out⟩
  clear hT HF
  generalize roomOf n0 = rm at *
  generalize mostOf n1 = ms at *
  go_wp2_with fail
  go_loopw [13, 64] (fun v i wr => ∃ k : Nat, k ≤ nc ∧ i = .int .i64 k ∧ Chg No w wr ∧ ∃ q n c, v = .slice q n c ∧ n ≤ b.length ∧ PiecesAt w wr px pl pd py ql qd rm ms b (.slice q n c)) (fun _ i _ => nc - (intOf i).toNat)
  case atStart => exact ⟨0, Nat.zero_le _, rfl, by obtain ⟨_, _, _, _, hT, _⟩ := HT.out; exact hT.chg, p, _, cap, rfl, Nat.le_refl _, HT.out⟩
  case round =>
    obtain ⟨k, hk, rfl, hcw, q, n, c, rfl, hnb, hat⟩ := hrel
    clear HT
    by_cases hkl : k < nc
    · obtain ⟨g, o, rfl, hcell⟩ := HCELL.out k hkl
      have c0 := hcw.cell hcell (fun x => x)
      have HKL := Lib.hid hkl
      have HAT := Lib.hid hat
      have hk9 : (k : Int) ≤ 60 := by omega
      have hn9 : (n : Int) ≤ 2000 := by have := HL.out; omega
      clear hat hcell hcw
      generalize cs.getD k 0 = cut at c0
      obtain ⟨kk, hkk⟩ : ∃ kk : Nat, (kk : Int) = cut % 18446744073709551616 % ((n : Int) + 1) := ⟨(cut % 18446744073709551616 % ((n : Int) + 1)).toNat, Int.toNat_of_nonneg (Int.emod_nonneg _ (by omega))⟩
      have hkn : (kk : Int) ≤ n := by rw [hkk]; have := Int.emod_lt_of_pos (cut % 18446744073709551616) (show (0 : Int) < (n : Int) + 1 by omega); omega
      have hrem : wrap64 ((IntKind.u64.wrap cut).tmod ((n : Int) + 1)) = kk := by rw [hkk]; exact remU cut _ (by omega) (by omega)
      have hkn' : kk ≤ n := by omega
      have hkc : (kk : Int) ≤ c := by
        obtain ⟨_, _, _, _, _, hb', _⟩ := HAT.out
        obtain ⟨_, _, hv, h1, _⟩ := hb'
        injection hv with _ e2 e3
        omega
      have HF := Lib.hid (HAT.out.fed HG.out H6.out HFR.out HL.out hkn')
      clear hkk HAT
      go_wp2_with fail
      refine HF.out.mono ?_
      rintro e w7 ⟨rfl, hat, _⟩
      have HAT := Lib.hid hat
      clear hat HF c0
      go_wp2_with fail
      go_roundw
      case rel => exact ⟨k + 1, HKL.out, by go_num, by obtain ⟨_, _, _, _, hT, _⟩ := HAT.out; exact hT.chg, _, _, _, rfl, by omega, HAT.out⟩
      case measure => have := HKL.out; simp [intOf]; omega
    · obtain rfl : k = nc := by omega
      have hnc : (n : Int) ≤ c := by
        obtain ⟨_, _, _, _, _, hb', _⟩ := hat
        obtain ⟨_, _, hv, h1, _⟩ := hb'
        injection hv with _ e2 e3
        omega
      have HF := Lib.hid (hat.fed HG.out H6.out HFR.out HL.out (Nat.le_refl n))
      clear hat hcw
      go_wp2_with fail
      refine HF.out.mono ?_
      rintro e w7 ⟨rfl, _, hend⟩
      obtain ⟨Gx7, Gy7, hT7⟩ := hend trivial
      have hgood := (HFR.out.feed b).mono (m := 2000) (by have := HL.out; omega)
      have HE := Lib.hid (pieces_end hT7 hgood (Nat.le_refl _) ((fresh_told rm ms).feed b))
      clear hend hT7 hgood HF
      generalize ((fresh rm ms).feed b).1 = S at HE
      go_wp2_with fail
      refine HE.out.mono ?_
      rintro e w8 ⟨q1, n1, c1, rfl, he⟩
      have HE1 := Lib.hid he
      clear he HE
      go_wp2_with fail
      refine HE1.out.mono ?_
      rintro e w9 ⟨q2, n2, c2, rfl, he⟩
      have HE2 := Lib.hid he
      clear he HE1
      go_wp2_with fail
      refine HE2.out.mono ?_
      rintro e w10 ⟨rfl, hc10, h1, h2, h3, h4, h5, h6⟩
      have HC10 := Lib.hid hc10
      have H1 := Lib.hid h1
      have H2 := Lib.hid h2
      have H3 := Lib.hid h3
      have H4 := Lib.hid h4
      have H5 := Lib.hid h5
      have H7 := Lib.hid h6
      clear hc10 h1 h2 h3 h4 h5 h6 HE2
      go_wp2_with fail
      refine H1.out.mono ?_
      rintro e w11 ⟨rfl, rfl⟩
      go_wp2_with fail
      refine H2.out.mono ?_
      rintro e w11 ⟨rfl, rfl⟩
      go_wp2_with fail
      refine H3.out.mono ?_
      rintro e w11 ⟨rfl, rfl⟩
      go_wp2_with fail
      refine H4.out.mono ?_
      rintro e w11 ⟨rfl, rfl⟩
      go_wp2_with fail
      refine H5.out.mono ?_
      rintro e w11 ⟨rfl, rfl⟩
      go_wp2_with fail
      refine H7.out.mono ?_
      rintro e w11 ⟨rfl, rfl⟩
      go_wp2_with fail
      go_ret
      exact ⟨rfl, HC10.out⟩

theorem pieces_short (w : World) (n0 n1 : Int) (p qc : Option Addr) (n cap nc cc : Nat) (hg : Glob w) (h6 : 6 ≤ w.heap.size) (hl : 2000 < n ∨ 60 < nc) :
    Calls Tryz.prog 4 #[.agg #[.int .i64 n0, .int .i64 n1], .slice p n cap, .slice qc nc cc] w fun e w' => e = .returned (.bool true) ∧ Chg No w w' := by
  obtain ⟨W, hW⟩ : ∃ W, w.alloc (.cells #[.int .i64 n0, .int .i64 n1] 36) = W := ⟨_, rfl⟩
  have hcW : Chg No w W := by rw [← hW]; exact (Chg.refl No w).alloc _
  have HA := Lib.hid (fun w1 (h : Chg No w w1) => alive_calls w1 (hg.no h) (Nat.le_trans h6 h.size))
  have HCW := Lib.hid hcW
  clear hg h6 hcW
  by_cases h1 : 2000 < n
  · have hl2 : decide ((2000 : Int) < n) = true := by rw [decide_eq_true_iff]; omega
    clear hl
    go_enter Tryz.func4, Tryz.ntmps4
    go_wp2_with fail
    refine (HA.out W HCW.out).mono ?_
    rintro e w1 ⟨rfl, hc1⟩
    have HC1 := Lib.hid (HCW.out.trans hc1)
    have HA1 := Lib.hid (HA.out w1 HC1.out)
    clear hc1 HA hW
    go_wp2_with fail
    refine HA1.out.mono ?_
    rintro e w2 ⟨rfl, hc2⟩
    have HC2 := Lib.hid (HC1.out.trans hc2)
    clear hc2 HC1 HA1
    go_wp2_with fail
    go_ret
    exact ⟨rfl, HC2.out⟩
  · have hl2 : decide ((2000 : Int) < n) = false := by rw [decide_eq_false_iff_not]; omega
    have hl3 : decide ((60 : Int) < nc) = true := by rw [decide_eq_true_iff]; omega
    clear hl
    go_enter Tryz.func4, Tryz.ntmps4
    go_wp2_with fail
    refine (HA.out W HCW.out).mono ?_
    rintro e w1 ⟨rfl, hc1⟩
    have HC1 := Lib.hid (HCW.out.trans hc1)
    have HA1 := Lib.hid (HA.out w1 HC1.out)
    clear hc1 HA hW
    go_wp2_with fail
    refine HA1.out.mono ?_
    rintro e w2 ⟨rfl, hc2⟩
    have HC2 := Lib.hid (HC1.out.trans hc2)
    clear hc2 HC1 HA1
    go_wp2_with fail
    go_ret
    exact ⟨rfl, HC2.out⟩
end Go.Proofs.YtgpmnicmgehmbaaGreatDoor


namespace Go.Proofs.YtgpmnicmgehmbaaGreatDoor
open Go.ChangeShapes Go.WideShapes Go.ChangeAt Go.RowKit Lamp
set_option maxRecDepth 100000

theorem cells_u8 : Tryz.prog.cellsOf 5 = 1 := by kernel_rfl
theorem range_u8 {n : Int} (h : (Lit.int .u8 n).wf = true) : 0 ≤ n ∧ n < 256 := by
  have h1 : (decide (IntKind.u8.min ≤ n) && decide (n ≤ IntKind.u8.max)) = true := h
  have h2 : IntKind.u8.min = 0 := by decide
  have h3 : IntKind.u8.max = 255 := by decide
  rw [h2, h3] at h1
  simp at h1
  omega
theorem nums_of (zs : List Int) (h : ∀ n ∈ zs, (Lit.int .u8 n).wf = true) : ∃ l : Bytes, nums l = zs := by
  refine ⟨zs.map fun n => UInt8.ofNat n.toNat, ?_⟩
  unfold nums
  rw [List.map_map]
  conv => rhs; rw [← List.map_id zs]
  refine List.map_congr_left fun n hn => ?_
  have h2 := range_u8 (h n hn)
  obtain ⟨m, rfl⟩ : ∃ m : Nat, n = m := ⟨n.toNat, by omega⟩
  simp
  omega
/-- Bytes, nil or not. -/
theorem open_bytes {H : Type} {enc : TypeId × Value → H} {W : World} {a0 : Option Addr} {len cap : Nat} {d0 : DataW H} {p : List MemPlace}
    (h0 : DataW.Trod enc Tryz.prog W 0 (fun _ => true) true 22 (.slice a0 len cap) d0 p) (hl : len ≤ 140737488355328) : ∃ l : Bytes, l.length = len ∧ Bs W (.slice a0 len cap) l := by
  obtain ⟨fuel, hf⟩ := h0
  rcases open_ints Tryz.underlying22 Tryz.underlying5 cells_u8 hf with ⟨hcs, hx⟩ | ⟨a, len', cap', zs, hcs, _, hle, hm, hz, hx, hcell, hwz⟩
  · simp [Value.cells] at hcs
    obtain ⟨rfl, rfl, rfl⟩ := hcs
    exact ⟨[], rfl, Bs.nil W⟩
  · simp [Value.cells] at hcs
    obtain ⟨rfl, rfl, rfl⟩ := hcs
    simp only [if_true] at hz
    obtain ⟨l, hl2⟩ := nums_of (zs.take len) (fun n hn => hwz n (List.mem_of_mem_take hn))
    have hlen : l.length = len := by
      have := congrArg List.length hl2
      rw [length_nums, List.length_take] at this
      omega
    refine ⟨l, hlen, some a, cap, by rw [hlen], by omega, by omega, (by intro h; cases h), ?_⟩
    rw [hl2, hlen]
    exact Lib.BytesIn.of_cells (fun i hi => by rw [hcell i (by omega)]; simp [List.getD, hi])
end Go.Proofs.YtgpmnicmgehmbaaGreatDoor


namespace Go.Proofs.YtgpmnicmgehmbaaGreatDoor
open Go.ChangeShapes Go.WideShapes Go.ChangeAt Go.RowKit Lamp
set_option maxRecDepth 100000

/-- Where a slice's block is. -/
theorem open_lt {W : World} {r : Reach} {base : Nat} {t e : TypeId} {a0 : Option Addr} {len cap : Nat} (ht : Tryz.prog.underlying t = some (.slice e)) (h : Value.okWide Tryz.prog W r base t (.slice a0 len cap)) :
    ∀ k, (Value.slice a0 len cap).ownBlock = some k → k < W.heap.size := by
  intro k hk
  cases a0 with
  | none => simp [Value.ownBlock] at hk
  | some a =>
    simp only [Value.okWide, ht, Cell.okWide, Cell.ok] at h
    obtain ⟨_, _, _, _, row, cells, hs, _⟩ := h
    simp [Value.ownBlock] at hk
    subst hk
    unfold World.shape? at hs
    rcases Nat.lt_or_ge a.block W.heap.size with h1 | h1
    · exact h1
    · rw [Array.getElem?_eq_none h1] at hs
      simp at hs
/-- Numbers, nil or not. -/
theorem open_nums {H : Type} {enc : TypeId × Value → H} {W : World} {t e : TypeId} {k : IntKind} {a0 : Option Addr} {len cap : Nat} {d0 : DataW H} {p : List MemPlace} (ht : Tryz.prog.underlying t = some (.slice e)) (he : Tryz.prog.underlying e = some (.int k)) (hc : Tryz.prog.cellsOf e = 1)
    (h0 : DataW.Trod enc Tryz.prog W 0 (fun _ => true) true t (.slice a0 len cap) d0 p) : ∃ zs : List Int, zs.length = len ∧ (∀ i, i < len → ∃ g o, a0 = some ⟨g, o, none⟩ ∧ W.cell? ⟨g, o + i, none⟩ = some (.int k (zs.getD i 0))) ∧ ∀ n ∈ zs, (Lit.int k n).wf = true := by
  obtain ⟨fuel, hf⟩ := h0
  rcases open_ints ht he hc hf with ⟨hcs, hx⟩ | ⟨a, len', cap', zs, hcs, _, hle, hm, hz, hx, hcell, hwz⟩
  · simp [Value.cells] at hcs
    obtain ⟨rfl, rfl, rfl⟩ := hcs
    exact ⟨[], rfl, fun i hi => by omega, fun n hn => by simp at hn⟩
  · simp [Value.cells] at hcs
    obtain ⟨rfl, rfl, rfl⟩ := hcs
    simp only [if_true] at hz
    refine ⟨zs.take len, by simp; omega, fun i hi => ?_, fun n hn => hwz n (List.mem_of_mem_take hn)⟩
    obtain ⟨g, o, s⟩ := a
    have h1 := hcell i (by omega)
    obtain rfl : s = none := by simpa [Addr.add] using World.cell?_spot (hcell 0 (by omega))
    refine ⟨g, o, rfl, ?_⟩
    rw [← add_plain, h1]
    simp [List.getD, hi]
theorem cells_int : Tryz.prog.cellsOf 3 = 1 := by kernel_rfl
theorem types_two : Tryz.prog.cellTypes Tryz.prog.depth 36 = some [3, 3] := by kernel_rfl
/-- An array of two numbers. -/
theorem open_two {W : World} {r : Reach} {base : Nat} {v : Value} (h : Value.okWide Tryz.prog W r base 36 v) : ∃ n0 n1, v = .agg #[.int .i64 n0, .int .i64 n1] := by
  simp only [Value.okWide, Tryz.underlying36] at h
  obtain ⟨cs, rfl, hs, ts, hts, _, hc⟩ := h
  rw [types_two] at hts
  injection hts with hts
  subst hts
  have hs2 : cs.size = 2 := hs.trans (by kernel_rfl)
  have each : ∀ i (hi : i < cs.size), ∃ n, cs[i] = .int .i64 n := by
    intro i hi
    obtain ⟨u, hu, hok⟩ := hc i cs[i] (Array.getElem?_eq_getElem hi)
    have hu2 : u = 3 := by
      have : i = 0 ∨ i = 1 := by omega
      rcases this with rfl | rfl <;> simpa using hu.symm
    subst hu2
    simp only [Cell.okWide, Tryz.underlying3] at hok
    generalize cs[i] = x at hok
    cases x <;> simp_all [Cell.ok, Tryz.underlying3]
  obtain ⟨n0, h0⟩ := each 0 (by omega)
  obtain ⟨n1, h1⟩ := each 1 (by omega)
  refine ⟨n0, n1, ?_⟩
  congr 1
  apply Array.ext
  · simpa using hs2
  · intro i hi hi2
    have : i = 0 ∨ i = 1 := by omega
    rcases this with rfl | rfl
    · simpa using h0
    · simpa using h1
end Go.Proofs.YtgpmnicmgehmbaaGreatDoor


namespace Go.Proofs.YtgpmnicmgehmbaaGreatDoor
open Go.RowKit Lamp Go.Conc
set_option maxRecDepth 100000
set_option maxHeartbeats 1000000

theorem none_low (w : World) (n : Int) (q : Option Addr) (l c : Nat) (hg : Glob w) (h6 : 6 ≤ w.heap.size) (h1 : n < 1) :
    Calls Tryz.prog 5 #[.int .i64 n, .slice q l c] w fun e w' => e = .returned (.bool true) ∧ Chg No w w' := by
  have HRS := Lib.hid (fun w1 => nilReset_calls w1)
  have HFD := Lib.hid (nilFeed_calls w q l c)
  have HTK := Lib.hid (fun w1 => nilTake_calls w1)
  have HSN := Lib.hid (fun w1 => nilSeen_calls w1)
  have HKP := Lib.hid (fun w1 => nilKept_calls w1)
  have HHD := Lib.hid (fun w1 => nilHeld_calls w1)
  have HNN := Lib.hid (fun w1 => nilNew_calls w1 n)
  have HG := Lib.hid hg
  have H6 := Lib.hid h6
  clear hg h6
  go_enter Tryz.func5, Tryz.ntmps5
  go_wp2_with fail
  refine (HRS.out _).mono ?_
  rintro e w1 ⟨rfl, rfl⟩
  go_wp2_with fail
  refine HFD.out.mono ?_
  rintro e w1 ⟨rfl, hc1⟩
  have HC1 := Lib.hid hc1
  clear hc1 HFD HRS
  go_wp2_with fail
  refine (HTK.out _).mono ?_
  rintro e w2 ⟨rfl, rfl⟩
  go_wp2_with fail
  refine (HSN.out _).mono ?_
  rintro e w2 ⟨rfl, rfl⟩
  go_wp2_with fail
  refine (HKP.out _).mono ?_
  rintro e w2 ⟨rfl, rfl⟩
  go_wp2_with fail
  refine (HHD.out _).mono ?_
  rintro e w2 ⟨rfl, rfl⟩
  go_wp2_with fail
  refine (HNN.out _).mono ?_
  rintro e w2 ⟨rfl, rfl⟩
  have HDN := Lib.hid (newDisk_ok (w := w1) 100 (by decide) (by decide))
  clear HTK HSN HKP HHD HNN
  go_wp2_with fail
  refine HDN.out.mono ?_
  rintro e w3 ⟨rfl, hd1, hd2, hb3⟩
  have HC3 : Hid (Chg No w w3) := HC1.out.trans (Chg.of_below hb3)
  have hdk := diskAt_new hd1 hd2 (by omega)
  have HDK := Lib.hid hdk
  have HAL := Lib.hid (alive_calls w3 (HG.out.no HC3.out) (Nat.le_trans H6.out HC3.out.size))
  clear hd1 hd2 hb3 hdk HDN
  go_wp2_with fail
  refine HAL.out.mono ?_
  rintro e w4 ⟨rfl, hc4⟩
  have HC4 := Lib.hid (HC3.out.trans hc4)
  have HOP := Lib.hid (open_fresh (HDK.out.old hc4) logName rfl (by decide))
  clear hc4 HAL HDK
  go_wp2_with fail
  refine HOP.out.mono ?_
  rintro e w5 ⟨pl, F, rfl, hl, hb5, hF⟩
  have HC5 : Hid (Chg No w w5) := HC4.out.trans (Chg.of_below hb5)
  have HLG := Lib.hid hl
  clear hl hb5 hF HOP
  have HNB := Lib.hid (newBox_bad w5 pl n (.inl h1))
  go_wp2_with fail
  refine HNB.out.mono ?_
  rintro e w6 ⟨rfl, rfl⟩
  go_wp2_with fail
  go_ret
  exact ⟨rfl, HC5.out⟩

theorem none_high (w : World) (n : Int) (q : Option Addr) (l c : Nat) (hg : Glob w) (h6 : 6 ≤ w.heap.size) (h1 : 65536 < n) :
    Calls Tryz.prog 5 #[.int .i64 n, .slice q l c] w fun e w' => e = .returned (.bool true) ∧ Chg No w w' := by
  have HRS := Lib.hid (fun w1 => nilReset_calls w1)
  have HFD := Lib.hid (nilFeed_calls w q l c)
  have HTK := Lib.hid (fun w1 => nilTake_calls w1)
  have HSN := Lib.hid (fun w1 => nilSeen_calls w1)
  have HKP := Lib.hid (fun w1 => nilKept_calls w1)
  have HHD := Lib.hid (fun w1 => nilHeld_calls w1)
  have HNN := Lib.hid (fun w1 => nilNew_calls w1 n)
  have HG := Lib.hid hg
  have H6 := Lib.hid h6
  clear hg h6
  go_enter Tryz.func5, Tryz.ntmps5
  go_wp2_with fail
  refine (HRS.out _).mono ?_
  rintro e w1 ⟨rfl, rfl⟩
  go_wp2_with fail
  refine HFD.out.mono ?_
  rintro e w1 ⟨rfl, hc1⟩
  have HC1 := Lib.hid hc1
  clear hc1 HFD HRS
  go_wp2_with fail
  refine (HTK.out _).mono ?_
  rintro e w2 ⟨rfl, rfl⟩
  go_wp2_with fail
  refine (HSN.out _).mono ?_
  rintro e w2 ⟨rfl, rfl⟩
  go_wp2_with fail
  refine (HKP.out _).mono ?_
  rintro e w2 ⟨rfl, rfl⟩
  go_wp2_with fail
  refine (HHD.out _).mono ?_
  rintro e w2 ⟨rfl, rfl⟩
  go_wp2_with fail
  refine (HNN.out _).mono ?_
  rintro e w2 ⟨rfl, rfl⟩
  have HDN := Lib.hid (newDisk_ok (w := w1) 100 (by decide) (by decide))
  clear HTK HSN HKP HHD HNN
  go_wp2_with fail
  refine HDN.out.mono ?_
  rintro e w3 ⟨rfl, hd1, hd2, hb3⟩
  have HC3 : Hid (Chg No w w3) := HC1.out.trans (Chg.of_below hb3)
  have hdk := diskAt_new hd1 hd2 (by omega)
  have HDK := Lib.hid hdk
  have HAL := Lib.hid (alive_calls w3 (HG.out.no HC3.out) (Nat.le_trans H6.out HC3.out.size))
  clear hd1 hd2 hb3 hdk HDN
  go_wp2_with fail
  refine HAL.out.mono ?_
  rintro e w4 ⟨rfl, hc4⟩
  have HC4 := Lib.hid (HC3.out.trans hc4)
  have HOP := Lib.hid (open_fresh (HDK.out.old hc4) logName rfl (by decide))
  clear hc4 HAL HDK
  go_wp2_with fail
  refine HOP.out.mono ?_
  rintro e w5 ⟨pl, F, rfl, hl, hb5, hF⟩
  have HC5 : Hid (Chg No w w5) := HC4.out.trans (Chg.of_below hb5)
  have HLG := Lib.hid hl
  clear hl hb5 hF HOP
  have HNB := Lib.hid (newBox_bad w5 pl n (.inr h1))
  go_wp2_with fail
  refine HNB.out.mono ?_
  rintro e w6 ⟨rfl, rfl⟩
  go_wp2_with fail
  go_ret
  exact ⟨rfl, HC5.out⟩

theorem none_mid (w : World) (n : Int) (q : Option Addr) (l c : Nat) (hg : Glob w) (h6 : 6 ≤ w.heap.size) (h1 : 1 ≤ n) (h2 : n ≤ 65536) :
    Calls Tryz.prog 5 #[.int .i64 n, .slice q l c] w fun e w' => e = .returned (.bool true) ∧ Chg No w w' := by
  have HRS := Lib.hid (fun w1 => nilReset_calls w1)
  have HFD := Lib.hid (nilFeed_calls w q l c)
  have HTK := Lib.hid (fun w1 => nilTake_calls w1)
  have HSN := Lib.hid (fun w1 => nilSeen_calls w1)
  have HKP := Lib.hid (fun w1 => nilKept_calls w1)
  have HHD := Lib.hid (fun w1 => nilHeld_calls w1)
  have HNN := Lib.hid (fun w1 => nilNew_calls w1 n)
  have HG := Lib.hid hg
  have H6 := Lib.hid h6
  clear hg h6
  go_enter Tryz.func5, Tryz.ntmps5
  go_wp2_with fail
  refine (HRS.out _).mono ?_
  rintro e w1 ⟨rfl, rfl⟩
  go_wp2_with fail
  refine HFD.out.mono ?_
  rintro e w1 ⟨rfl, hc1⟩
  have HC1 := Lib.hid hc1
  clear hc1 HFD HRS
  go_wp2_with fail
  refine (HTK.out _).mono ?_
  rintro e w2 ⟨rfl, rfl⟩
  go_wp2_with fail
  refine (HSN.out _).mono ?_
  rintro e w2 ⟨rfl, rfl⟩
  go_wp2_with fail
  refine (HKP.out _).mono ?_
  rintro e w2 ⟨rfl, rfl⟩
  go_wp2_with fail
  refine (HHD.out _).mono ?_
  rintro e w2 ⟨rfl, rfl⟩
  go_wp2_with fail
  refine (HNN.out _).mono ?_
  rintro e w2 ⟨rfl, rfl⟩
  have HDN := Lib.hid (newDisk_ok (w := w1) 100 (by decide) (by decide))
  clear HTK HSN HKP HHD HNN
  go_wp2_with fail
  refine HDN.out.mono ?_
  rintro e w3 ⟨rfl, hd1, hd2, hb3⟩
  have HC3 : Hid (Chg No w w3) := HC1.out.trans (Chg.of_below hb3)
  have hdk := diskAt_new hd1 hd2 (by omega)
  have HDK := Lib.hid hdk
  have HAL := Lib.hid (alive_calls w3 (HG.out.no HC3.out) (Nat.le_trans H6.out HC3.out.size))
  clear hd1 hd2 hb3 hdk HDN
  go_wp2_with fail
  refine HAL.out.mono ?_
  rintro e w4 ⟨rfl, hc4⟩
  have HC4 := Lib.hid (HC3.out.trans hc4)
  have HOP := Lib.hid (open_fresh (HDK.out.old hc4) logName rfl (by decide))
  clear hc4 HAL HDK
  go_wp2_with fail
  refine HOP.out.mono ?_
  rintro e w5 ⟨pl, F, rfl, hl, hb5, hF⟩
  have HC5 : Hid (Chg No w w5) := HC4.out.trans (Chg.of_below hb5)
  have HLG := Lib.hid hl
  clear hl hb5 hF HOP
  have HNB := Lib.hid (newBox_ok n h1 h2 HLG.out)
  go_wp2_with fail
  refine HNB.out.mono ?_
  rintro e w6 ⟨px, G, rfl, hin, hc6, hG⟩
  have HSE := Lib.hid (seen_calls hin)
  have HC6 := Lib.hid (HC5.out.trans hc6)
  clear hin hc6 hG HNB
  go_wp2_with fail
  refine HSE.out.mono ?_
  rintro e w7 ⟨rfl, rfl⟩
  go_wp2_with fail
  go_ret
  exact ⟨rfl, HC6.out⟩

theorem none_calls (w : World) (n : Int) (q : Option Addr) (l c : Nat) (hg : Glob w) (h6 : 6 ≤ w.heap.size) :
    Calls Tryz.prog 5 #[.int .i64 n, .slice q l c] w fun e w' => e = .returned (.bool true) ∧ Chg No w w' := by
  by_cases h1 : n < 1
  · exact none_low w n q l c hg h6 h1
  · by_cases h2 : 65536 < n
    · exact none_high w n q l c hg h6 h2
    · exact none_mid w n q l c hg h6 (by omega) (by omega)
end Go.Proofs.YtgpmnicmgehmbaaGreatDoor


namespace Go.Proofs.YtgpmnicmgehmbaaGreatDoor
open Go.RowKit Lamp Go.ChangeShapes Go.WideShapes Go.ChangeAt

theorem cells_of_texts {H : Type} {enc : TypeId × Value → H} {P : Program} {w : World} {base : Nat} {sp : Nat → Bool} {held : Bool} {fuel : Nat} {t e : TypeId} {n : Nat} {cs : List Value} {zs : List Bytes} {p : List MemPlace}
    (ht : P.underlying t = some (.array n e)) (he : P.underlying e = some .string) (hce : P.cellsOf e = 1) (hct : P.cellsOf t = n)
    (h : DataW.trod enc P w base sp held fuel t cs = some (.agg (zs.map fun s => .lit (.string s)), p)) : cs = zs.map fun s => Value.string (ofL s) := by
  cases fuel with
  | zero => simp [DataW.trod] at h
  | succ fuel =>
    simp only [DataW.trod, ht, hce, hct, Nat.mul_one] at h
    split at h
    · rename_i hl
      obtain ⟨xs, hm, hx⟩ := Option.map_eq_some_iff.1 h
      have hxs : xs.map (·.1) = zs.map fun s => (DataW.lit (.string s) : DataW H) := by
        have := congrArg Prod.fst hx
        simpa using this
      have hxl : xs.length = n := by simpa using Lib.mapM_length hm
      have hzl : zs.length = n := by
        have := congrArg List.length hxs
        simp at this
        omega
      apply List.ext_getElem?
      intro i
      by_cases hi : i < n
      · obtain ⟨b, hb, hf⟩ := Lib.mapM_at hm i i (by simp [hi])
        obtain ⟨s, hc, rfl, _⟩ := DataW.trod_string he hf
        have h1 : cs[i]? = some (.string s) := by
          have := congrArg (·[0]?) hc
          simpa [List.getElem?_take, List.getElem?_drop] using this
        have h2 : (xs.map (·.1))[i]? = some (DataW.lit (.string s.data.toList) : DataW H) := by simp [hb]
        rw [hxs] at h2
        simp only [List.getElem?_map, Option.map_eq_some_iff, DataW.lit.injEq, Lit.string.injEq] at h2
        obtain ⟨z', hz', h3⟩ := h2
        simp [h1, hz', ofL, h3]
      · rw [List.getElem?_eq_none (by omega), List.getElem?_eq_none (by simp; omega)]
    · cases h

theorem texts_of_head {P : Program} {W : World} {name : String} {zs : List Bytes} {rest : List (String × DataW Unit)} {g : Nat} {t e : TypeId} {n : Nat}
    (hg : P.globalNamed name = some g) (hty : (P.globals[g]?).map (·.type) = some t) (ht : P.underlying t = some (.array n e)) (he : P.underlying e = some .string) (hce : P.cellsOf e = 1) (hct : P.cellsOf t = n)
    (h : laidMet P ((name, .agg (zs.map fun s => .lit (.string s))) :: rest) W) : ∀ k s, zs[k]? = some s → W.cell? ⟨g, k, none⟩ = some (.string (ofL s)) := by
  obtain ⟨ps, ⟨g', t', cs, fuel, p, q, hg', ht', hvar, hd, _, _⟩, _⟩ := h
  obtain rfl := Option.some.inj (hg.symm.trans hg')
  obtain rfl := Option.some.inj (hty.symm.trans ht')
  intro k s hk
  have h2 := World.var?_cell hg hvar k
  rw [h2, ← Array.getElem?_toList, cells_of_texts ht he hce hct hd]
  simp [hk]

theorem glob_of_laid {W : World} (h : laidMetH Tryz.prog Rows.inboxNoneRow.laid W) (hs : W.ShapedOpen Tryz.prog) : Glob W := by
  have h0 : laidMet Tryz.prog Rows.inboxNoneRow.laid W := h
  have hE : laidMet Tryz.prog [("lamplighter/frame.ends", Lib.tabData .u8 [28, 13])] W := h0.filter (fun x => x.1 == "lamplighter/frame.ends")
  have hV : laidMet Tryz.prog [("lamplighter/msh.versions", .agg (versions.map fun s => .lit (.string s)))] W := h0.filter (fun x => x.1 == "lamplighter/msh.versions")
  have hC : laidMet Tryz.prog [("lamplighter/ack.codes", .agg ([aa, ae, ar].map fun s => .lit (.string s)))] W := h0.filter (fun x => x.1 == "lamplighter/ack.codes")
  have gE : Tryz.prog.globalNamed "lamplighter/frame.ends" = some 0 := by kernel_rfl
  have gV : Tryz.prog.globalNamed "lamplighter/msh.versions" = some 2 := by kernel_rfl
  have gC : Tryz.prog.globalNamed "lamplighter/ack.codes" = some 1 := by kernel_rfl
  have hT := Lib.tabIs_of_head gE (show _ = some 106 by kernel_rfl) Tryz.underlying106 Tryz.underlying5 (by kernel_rfl) (by kernel_rfl) hE
  refine ⟨hT.cell gE 0 (by decide), hT.cell gE 1 (by decide), ?_, ?_, Tryz.laysM144.s1_3 W hs⟩
  · exact texts_of_head gC (show _ = some 173 by kernel_rfl) Tryz.underlying173 Tryz.underlying9 (by kernel_rfl) (by kernel_rfl) hC
  · exact texts_of_head gV (show _ = some 214 by kernel_rfl) Tryz.underlying214 Tryz.underlying9 (by kernel_rfl) (by kernel_rfl) hV
end Go.Proofs.YtgpmnicmgehmbaaGreatDoor


namespace Go.Proofs.YtgpmnicmgehmbaaGreatDoor
open Go.ChangeShapes Go.WideShapes Go.ChangeAt Go.RowKit Lamp

set_option maxRecDepth 100000
theorem ownKnob_none : ownKnob Tryz.prog.godebug = none := by kernel_rfl
theorem laid_out : laidOutB Tryz.prog = true := by kernel_rfl

/-- A datum's cells, laid flat. -/
def flat : Nat → DataW Unit → List Value
  | 0, _ => []
  | n + 1, .agg ps => ps.flatMap (flat n)
  | _ + 1, .lit (.int k z) => [.int k z]
  | _ + 1, .lit (.string s) => [.string (ofL s)]
  | _ + 1, _ => []
def setTo (c : Array Value) : Obj → Obj
  | .cells _ t f => .cells c t f
  | o => o
/-- A heap, the listed variables holding what the row says. -/
noncomputable def laidHeap : List (String × DataW Unit) → Array Obj → Array Obj
  | [], h => h
  | x :: r, h => laidHeap r (h.modify ((Tryz.prog.globalNamed x.1).getD 0) (setTo (flat 4 x.2).toArray))
/-- A world for the witness: the settled one, so turned. -/
noncomputable def laidWorld (l : List (String × DataW Unit)) (os : Os) : World :=
  { World.holding Tryz.prog os ⟨#[], #[], []⟩ with heap := laidHeap l (World.holding Tryz.prog os ⟨#[], #[], []⟩).heap }

namespace cardNone
def wargs : Array Value := #[.int .i64 0, .slice none 0 0]
theorem laid_met (os : Os) : laidMet Tryz.prog Rows.inboxNoneRow.laid ((laidWorld Rows.inboxNoneRow.laid os).forCall (fun _ _ => 0) ⟨#[], wargs, []⟩).memory :=
  laidMet_of_run' 8 (by kernel_rfl) (by kernel_rfl)
theorem reads (os : Os) {H : Type} (enc : TypeId × Value → H) : ∃ places, DataW.whole enc Tryz.prog ((laidWorld Rows.inboxNoneRow.laid os).forCall (fun _ _ => 0) ⟨#[], wargs, []⟩).memory Tryz.f5.params.toList Rows.inboxNoneSpec.vars false wargs.toList 8 = some ([.lit (.int .i64 0), .nil], [], places) :=
  ⟨[], by kernel_rfl⟩
end cardNone
end Go.Proofs.YtgpmnicmgehmbaaGreatDoor


namespace Go.Proofs.YtgpmnicmgehmbaaGreatDoor
open Go.ChangeShapes Go.WideShapes Go.ChangeAt Go.RowKit Lamp
set_option maxRecDepth 100000
namespace cardPieces
def wargs : Array Value := #[.agg #[.int .i64 0, .int .i64 0], .slice none 0 0, .slice none 0 0]
theorem laid_met (os : Os) : laidMet Tryz.prog Rows.inboxPiecesRow.laid ((laidWorld Rows.inboxPiecesRow.laid os).forCall (fun _ _ => 0) ⟨#[], wargs, []⟩).memory :=
  laidMet_of_run' 8 (by kernel_rfl) (by kernel_rfl)
theorem reads (os : Os) {H : Type} (enc : TypeId × Value → H) : ∃ places, DataW.whole enc Tryz.prog ((laidWorld Rows.inboxPiecesRow.laid os).forCall (fun _ _ => 0) ⟨#[], wargs, []⟩).memory Tryz.f4.params.toList Rows.inboxPiecesSpec.vars false wargs.toList 8 = some ([.agg [.lit (.int .i64 0), .lit (.int .i64 0)], .nil, .nil], [], places) :=
  ⟨[], by kernel_rfl⟩
theorem contract (H : Type) (enc : TypeId × Value → H) (W : World) (base : Nat) (args : Array Value) (ds gs : List (DataW H)) (before : List MemPlace)
    (hval : ∀ (j : Nat) t v, Tryz.f4.params[j]? = some t → args[j]? = some v → Value.okWide Tryz.prog W .any base t v)
    (hW : DataW.Whole enc Tryz.prog Tryz.f4.params.toList Rows.inboxPiecesSpec.vars false W args.toList ds gs before) (hL : laidMetH Tryz.prog Rows.inboxPiecesRow.laid W) (hS : W.ShapedOpen Tryz.prog) :
    Calls Tryz.prog 4 args W fun e W' => ∃ v, e = .returned v ∧ Rows.inboxPiecesSpec.post enc Tryz.prog Tryz.f4 false true false false W args v W' := by
  have hW' := hW
  obtain ⟨p, q, hA0, hV, rfl, _, _⟩ := hW
  have hA : DataW.TrodAll enc Tryz.prog W 0 (fun _ => true) true Tryz.f4.params.toList args.toList ds p := hA0
  rw [Tryz.params4] at hA hval
  obtain ⟨v0, vs0, d0, ds0, p0, q0, hargs, rfl, rfl, h0, r0⟩ := trodAll_cons hA
  obtain ⟨v1, vs1, d1, ds1, p1, q1, rfl, rfl, rfl, h1, r1⟩ := trodAll_cons r0
  obtain ⟨v2, vs2, d2, ds2, p2, q2, rfl, rfl, rfl, h2, r2⟩ := trodAll_cons r1
  obtain ⟨rfl, rfl, rfl⟩ := trodAll_nil r2
  obtain rfl : args = #[v0, v1, v2] := by cases args with | mk l => exact congrArg Array.mk hargs
  obtain ⟨rfl, rfl⟩ := trodVars_none hV
  obtain ⟨x0, y0, rfl⟩ := open_two (hval 0 36 v0 rfl rfl)
  obtain ⟨a1, l1, c1, rfl⟩ := okWide_slice Tryz.underlying22 (hval 1 22 v1 rfl rfl)
  obtain ⟨a2, l2, c2, rfl⟩ := okWide_slice Tryz.underlying37 (hval 2 37 v2 rfl rfl)
  simp only [List.append_nil] at hW'
  have hlt : ∀ x ∈ (p0 ++ (p1 ++ p2)), x.block < W.heap.size := fun x hx => by simpa using hW'.lt x hx
  have hg := glob_of_laid hL hS
  have h6 : 6 ≤ W.heap.size := by
    obtain ⟨o, _, ho, _⟩ := hS.2 6 (of_decide_eq_true (by kernel_rfl)) (of_decide_eq_true (by kernel_rfl))
    have := lt_of_heap ho
    omega
  refine (show Calls Tryz.prog 4 #[.agg #[.int .i64 x0, .int .i64 y0], .slice a1 l1 c1, .slice a2 l2 c2] W (fun e w' => e = .returned (.bool true) ∧ Chg No W w') from ?_).mono fun e W' ⟨he, hc⟩ => ?_
  · by_cases hl : 2000 < l1 ∨ 60 < l2
    · exact pieces_short W x0 y0 a1 a2 l1 c1 l2 c2 hg h6 hl
    · obtain ⟨b, hbl, hb⟩ := open_bytes h1 (by omega)
      obtain ⟨zs, hz, hcell, _⟩ := open_nums Tryz.underlying37 Tryz.underlying3 cells_int h2
      exact pieces_long W x0 y0 _ b a2 l2 c2 zs hg h6 hb (open_lt Tryz.underlying22 (hval 1 22 _ rfl rfl)) (by omega) (by omega) hz hcell
  subst he
  refine ⟨_, rfl, _, _, p0 ++ (p1 ++ p2), [], p0 ++ (p1 ++ p2), [], hW', ?_, ?_, rfl, ?_, fun h => by cases h⟩
  · exact trodAll_mk1 (shut_bool Tryz.underlying4 _)
  · have hsh := trodAll_cons_mk (Below.trod laid_out (by kernel_rfl) (of_decide_eq_true (by kernel_rfl)) h0 hc.below (fun x hx => hlt x (by simp only [List.mem_append]; first | exact .inl hx | exact .inr hx | exact .inl (.inl hx) | exact .inl (.inr hx) | exact .inr (.inl hx) | exact .inr (.inr hx)))) (trodAll_cons_mk (Below.trod laid_out (by kernel_rfl) (of_decide_eq_true (by kernel_rfl)) h1 hc.below (fun x hx => hlt x (by simp only [List.mem_append]; first | exact .inl hx | exact .inr hx | exact .inl (.inl hx) | exact .inl (.inr hx) | exact .inr (.inl hx) | exact .inr (.inr hx)))) (trodAll_mk1 (Below.trod laid_out (by kernel_rfl) (of_decide_eq_true (by kernel_rfl)) h2 hc.below (fun x hx => hlt x (by simp only [List.mem_append]; first | exact .inl hx | exact .inr hx | exact .inl (.inl hx) | exact .inl (.inr hx) | exact .inr (.inl hx) | exact .inr (.inr hx))))))
    exact hsh
  · exact hc.below.frame _

theorem lifted (os : Os) (started : os.Started) (H : Type) (enc : TypeId × Value → H) (F : Stop.Interp) :
    ReturnsInHanded {} Tryz.checked os 4 .any ((OpenSpec.ofChange Rows.inboxPiecesSpec).preRow enc Tryz.prog Tryz.f4 Rows.inboxPiecesRow.domain false Rows.inboxPiecesRow.laid) (((OpenSpec.ofChange Rows.inboxPiecesSpec).at F).post enc Tryz.prog Tryz.f4 false true false false) := by
  obtain ⟨places, hx⟩ := reads os enc
  refine returnsInHanded_of_row (C := Tryz.checked) (s := OpenSpec.ofChange Rows.inboxPiecesSpec) ownKnob_none started (by kernel_rfl) Tryz.func4
    (witness_row_at (enc := enc) (C := Tryz.checked) false (laidWorld Rows.inboxPiecesRow.laid os) wargs rfl (by kernel_rfl) (by kernel_rfl) (by kernel_rfl)
      (OpenSpec.preRow_of_cond 8 hx (by kernel_rfl) (fun k hk => by cases hk) (by kernel_rfl) (laid_met os))) ?_
  intro W base args ds gs before hval hW _ _ _ hL hS _
  exact contract H enc W base args ds gs before hval hW hL hS

theorem said : Rows.InboxPiecesSaid :=
  OpenClaim.holds_of_cond 4 Tryz.f4 rfl rfl rfl rfl rfl rfl rfl ⟨rfl, rfl, rfl, rfl, rfl⟩ rfl rfl rfl rfl rfl (by kernel_rfl) Tryz.func4 (by kernel_rfl)
    (of_decide_eq_true (by kernel_rfl)) (by unfold Func.isWrapper; first | (rw [if_pos (by decide +kernel)]; kernel_rfl) | (rw [if_neg (by decide +kernel)]; exact ⟨rfl, rfl⟩))
    (fun os started H enc _ F => by rw [OpenClaim.pre_eq_preRow]; exact lifted os started H enc F)

theorem plain (f : FuncId) (fn : Func) (hf : Tryz.pinned.checked.prog.funcNamed "lamplighter/lamplighterlaw17.InboxPieces" = some f) (hfn : Tryz.pinned.checked.prog.funcs[f]? = some fn) :
    true = Tryz.pinned.checked.prog.looks [] ∧ ∀ (j : Nat) t, fn.params[j]? = some t → Tryz.pinned.checked.prog.wantsStandIn t = false := by
  obtain rfl : f = 4 := Option.some.inj ((show Tryz.prog.funcNamed "lamplighter/lamplighterlaw17.InboxPieces" = some 4 by kernel_rfl).symm.trans hf) |>.symm
  obtain rfl : fn = Tryz.f4 := (Option.some.inj (Tryz.func4.symm.trans hfn)).symm
  refine ⟨by kernel_rfl, fun j t ht => ?_⟩
  rw [Tryz.params4] at ht
  have h3 : t = 36 ∨ t = 22 ∨ t = 37 := by simpa using Array.mem_of_getElem? ht
  rcases h3 with rfl | rfl | rfl
  · exact (show Tryz.prog.wantsStandIn 36 = false by kernel_rfl)
  · exact (show Tryz.prog.wantsStandIn 22 = false by kernel_rfl)
  · exact (show Tryz.prog.wantsStandIn 37 = false by kernel_rfl)

/-- The card. -/
theorem card : Rows.InboxPiecesCardSaid :=
  Claim7.holds_tied_plain_at .later [] _ _ _ _ said (fun _ h => by cases h) (by kernel_rfl) (fun _ h => by cases h) inboxPieces_row_tie rfl ⟨rfl, rfl⟩ (by kernel_rfl) rfl plain (by kernel_rfl)
#print axioms card
end cardPieces
end Go.Proofs.YtgpmnicmgehmbaaGreatDoor
