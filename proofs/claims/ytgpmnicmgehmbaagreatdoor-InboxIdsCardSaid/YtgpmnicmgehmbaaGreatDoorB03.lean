/- segment.between: the iterator over what stands between a sign's places, and the two loops over it.
   The disk's inner functions: begin, crash, change; New, SetRoom, Ops and their kin.
   Maps whose keys are texts: a look-up, a new key, a key struck out.
   The disk's calls on files: named, Append, Truncate, Sync, Read. -/
import Derived.Test.YtgpmnicmgehmbaaGreatDoorB01
import Derived.Test.YtgpmnicmgehmbaaGreatDoorB02
import Derived.RangeFuncBound
import Derived.Shelf.Abstract
import Derived.Shelf.RegionOpen
import Derived.OwnWalkIn
import Derived.TacticsInMore
import Derived.LoopNIn
import Derived.LoopIn
import Derived.KernelRfl
import Derived.Shelf.Strings.SlTrimAscii

namespace Go.Proofs.YtgpmnicmgehmbaaGreatDoor
open Go.RowKit Lamp
set_option maxRecDepth 100000
set_option maxHeartbeats 400000
attribute [local go_sem] Oper.semAt_some

theorem between_calls (w : World) (s : Bytes) (sep : UInt8) : Calls Tryz.prog 93 #[.string (ofL s), .int .u8 sep.toNat] w fun e w' =>
    e = .returned (.func (.func 139) #[] #[.pointer (some ⟨w.heap.size, 0, none⟩), .pointer (some ⟨w.heap.size + 1, 0, none⟩)]) ∧
    w' = (w.alloc (.cells #[.string (ofL s)] 9)).alloc (.cells #[.int .u8 sep.toNat] 5) := by
  have hmf := makeFunc_run
  go_enter Tryz.func93, Tryz.ntmps93
  go_wp2_with fail
  go_ret
  exact ⟨rfl, rfl⟩

theorem cut_calls1 {w : World} (hg : Glob w) (s : Bytes) (sep : UInt8) (hs : s.length < 4294967281) : Calls Tryz.prog 140 #[.string (ofL s), .string (ofL [sep])] w fun e w' =>
    e = .returned (.tuple #[.string (ofL (cutAt sep s).1), .string (ofL (cutAt sep s).2.1), .bool (cutAt sep s).2.2]) ∧ ∃ q, w' = w.drewN q := by
  obtain ⟨m, hm⟩ := hg.most
  refine (Tryz.strings_Cut (ofL s) (ofL [sep]) m w (by simpa using hs) hm).mono ?_
  rintro e w' ⟨rfl, hq⟩
  refine ⟨?_, hq⟩
  simp only [ofL_data]
  rw [cut_one]
  rfl

/-- What the iterator keeps of the world: its box, the sign's box, the library's variable. -/
def IterK (box : Nat) : Nat → Prop := fun k => k = box ∨ k = box + 1 ∨ k = 3

theorem most_kept {W W' : World} {m : Value} (h : W.cell? ⟨3, 0, none⟩ = some m) (hk : W'.heap[3]? = W.heap[3]?) : W'.cell? ⟨3, 0, none⟩ = some m :=
  (World.cell?_of_block hk).trans h

theorem cut_calls2 {w : World} {m : Int} (hm : w.cell? ⟨3, 0, none⟩ = some (.int .i64 m)) (s : Bytes) (sep : UInt8) (hs : s.length < 4294967281) : Calls Tryz.prog 140 #[.string (ofL s), .string (ofL [sep])] w fun e w' =>
    e = .returned (.tuple #[.string (ofL (cutAt sep s).1), .string (ofL (cutAt sep s).2.1), .bool (cutAt sep s).2.2]) ∧ ∃ q, w' = w.drewN q := by
  refine (Tryz.strings_Cut (ofL s) (ofL [sep]) m w (by simpa using hs) hm).mono ?_
  rintro e w' ⟨rfl, hq⟩
  refine ⟨?_, hq⟩
  simp only [ofL_data]
  rw [cut_one]
  rfl

theorem wideD (n : Nat) : Fence.wide.depth.isSome = true → 1 ≤ n := fun h => by cases h
theorem strOf (l : Bytes) : strOfNums (nums l) = ofL l := by
  have h := bytesOf_nums l
  show (⟨(((nums l).map fun n => UInt8.ofNat n.toNat)).toArray⟩ : ByteArray) = ⟨l.toArray⟩
  congr 1
  congr 1
theorem run_text {w : World} {v : Value} {l : Bytes} (h : Bs w v l) : (convert 22 9 v).run Tryz.prog w = .ok (.string (ofL l)) w := by
  obtain ⟨p, cap, rfl, h1, h2, h3, h4⟩ := h
  cases p with
  | none =>
    obtain rfl : l = [] := List.eq_nil_of_length_eq_zero (by have := h3 rfl; omega)
    exact run_convert_bytes_nil (w := w) 22 5 Tryz.underlying22 Tryz.underlying5 _ _ 9 Tryz.underlying9
  | some a =>
    by_cases h0 : 0 < l.length
    · obtain ⟨b, o, hp, hx⟩ := h4 h0
      cases hp
      rw [run_convert_bytes_arg (w := w) 22 5 Tryz.underlying22 Tryz.underlying5 b o l.length cap (nums l) (length_nums l) hx 9 Tryz.underlying9, strOf]
    · obtain rfl : l = [] := List.eq_nil_of_length_eq_zero (by omega)
      show (convert 22 9 (.slice (some a) 0 cap)).run Tryz.prog w = _
      rw [run_convert_bytes_string (P := Tryz.prog) w 22 9 5 (some a) 0 cap Tryz.underlying22 Tryz.underlying5 Tryz.underlying9]
      simp [Conv.bytesToString, loadCells, loadCellsFrom]
      rfl
theorem run_text_lit (w : World) (l : Bytes) (vs : Array Value) (g n : Nat) (hvs : vs = (l.map u8).toArray) (hg : g = w.heap.size) (hn : n = l.length) (hl : l.length ≤ 140737488355328) :
    (convert 22 9 (.slice (some ⟨g, 0, none⟩) n n)).run Tryz.prog (w.alloc (.cells vs 5)) = .ok (.string (ofL l)) (w.alloc (.cells vs 5)) := by
  subst hg hn
  exact run_text (cells_bs (heap_alloc_new w _) hvs hl)
/-- The text of one sign. -/
theorem run_sign (w : World) (c : UInt8) : (convert 22 9 (.slice (some ⟨w.heap.size, 0, none⟩) 1 1)).run Tryz.prog (w.alloc (.cells #[.int .u8 c.toNat] 5)) = .ok (.string (ofL [c])) (w.alloc (.cells #[.int .u8 c.toNat] 5)) :=
  run_text_lit w [c] _ _ 1 rfl rfl rfl (by simp)

/-- How long the text in a box is. -/
def boxLen (box : Nat) (w : World) : Nat := match w.cell? ⟨box, 0, none⟩ with
  | some (.string s) => s.size
  | _ => 0
theorem boxLen_eq {box : Nat} {w : World} {s : ByteArray} (h : w.cell? ⟨box, 0, none⟩ = some (.string s)) : boxLen box w = s.size := by simp [boxLen, h]

theorem iter_in (n l box : Nat) (sep : UInt8) (s0 : Bytes) (m : Int) (hs0 : s0.length < 4294967281) (hbm : 3 < box) (J : List Bytes → World → Prop) (W : World)
    (hJ : ∀ s A B, J s A → Chg (fun k => k = box) A B → J s B)
    (hY : ∀ pre x W, J pre W → pre.length < (pieces sep s0).length → YieldAt Fence.wide (n - 1) Tryz.prog l #[.string (ofL x)] W fun e W' => e = .returned (.bool true) ∧ J (pre ++ [x]) W' ∧ ∀ k, IterK box k → W'.heap[k]? = W.heap[k]?)
    (hb : W.heap[box]? = some (.cells #[.string (ofL s0)] 9 (0, 0))) (hb1 : W.heap[box + 1]? = some (.cells #[.int .u8 sep.toNat] 5 (0, 0)))
    (hm : W.cell? ⟨3, 0, none⟩ = some (.int .i64 m)) (h0 : J [] W) :
    CallsIn Fence.wide n Tryz.prog 139 #[.func (.yield l) #[] #[], .pointer (some ⟨box, 0, none⟩), .pointer (some ⟨box + 1, 0, none⟩)] W fun e W' => (∃ v, e = .returned v) ∧ J (pieces sep s0) W' := by
  refine callsIn_of_wp Tryz.func139 rfl trivial ?_ rfl
  simp only [Tryz.ntmps139, List.size_toArray, List.length_cons, List.length_nil, Nat.reduceAdd, Nat.reduceSub, Array.replicate_succ, Array.replicate_zero, List.push_toArray, List.append_toArray, List.nil_append, List.cons_append]
  gi_wp2
  gi_loopw [4] (fun _ wr => ∃ (pre : List Bytes) (rest : Bytes), pieces sep s0 = pre ++ pieces sep rest ∧ rest.length < 4294967281 ∧ J pre wr ∧ wr.heap[box]? = some (.cells #[.string (ofL rest)] 9 (0, 0)) ∧
      wr.heap[box + 1]? = some (.cells #[.int .u8 sep.toNat] 5 (0, 0)) ∧ wr.cell? ⟨3, 0, none⟩ = some (.int .i64 m)) (fun _ wr => boxLen box wr)
  case atStart => exact ⟨[], s0, rfl, hs0, h0, hb, hb1, hm⟩
  case round =>
    obtain ⟨pre, rest, hp, hr, hJ0, hb', hb1', hm'⟩ := hrel
    have c0 := cell_blk hb' 0
    have c1 := cell_blk hb1' 0
    have f0 := free_blk hb' 0
    simp only [List.getElem?_toArray, List.getElem?_cons_zero] at c0 c1
    have HB := Lib.hid hb'
    have HB1 := Lib.hid hb1'
    have HP := Lib.hid hp
    have HJ := Lib.hid hJ
    have HJ0 := Lib.hid hJ0
    have HY := Lib.hid hY
    clear hb' hb1' hp hJ hJ0 hY hb hb1
    have hcv := run_sign wr sep
    gi_wp2
    refine ⟨trivial, wideD _, ?_⟩
    refine (callsIn_wide.2 (cut_calls2 (w := wr.alloc (.cells #[.int .u8 sep.toNat] 5)) (cell_al hm' _) rest sep hr)).mono ?_
    rintro e w1 ⟨rfl, q, rfl⟩
    have hW : Chg No wr ((wr.alloc (.cells #[.int .u8 sep.toNat] 5)).drewN q) := ((Chg.refl No wr).alloc _).drewN q
    have hJ1 : J pre ((wr.alloc (.cells #[.int .u8 sep.toNat] 5)).drewN q) := HJ.out _ _ _ HJ0.out (hW.mono (fun _ _ h => h.elim))
    have hplen : pre.length < (pieces sep s0).length := by
      have := List.length_pos_iff.2 (pieces_ne sep rest)
      rw [HP.out, List.length_append]
      omega
    obtain ⟨fn, tmps, assign, body, hy, hR⟩ := HY.out pre (cutAt sep rest).1 _ hJ1 hplen
    clear hplen
    have HB2 := Lib.hid (hW.heap HB.out (fun x => x))
    have HB12 := Lib.hid (hW.heap HB1.out (fun x => x))
    have HM2 := Lib.hid (hW.cell hm' (fun x => x))
    clear hW hJ1 c0 c1 f0 hm'
    generalize (wr.alloc (.cells #[.int .u8 sep.toNat] 5)).drewN q = w2 at hy hR HB2 HB12 HM2 ⊢
    gi_wp2
    refine ⟨wideD _, ?_⟩
    refine hR.mono ?_
    rintro e W3 ⟨rfl, hJ3, hk3⟩
    have hb3 : W3.heap[box]? = some (.cells #[.string (ofL rest)] 9 (0, 0)) := (hk3 _ (.inl rfl)).trans HB2.out
    have hb13 : W3.heap[box + 1]? = some (.cells #[.int .u8 sep.toNat] 5 (0, 0)) := (hk3 _ (.inr (.inl rfl))).trans HB12.out
    have hm3 := most_kept HM2.out (hk3 _ (.inr (.inr rfl)))
    have hpc := HP.out
    rw [pieces_cut sep rest] at hpc
    have hlen := cutAt_len sep rest
    clear hy hR HB2 HB12 HM2 HY
    cases hmore : (cutAt sep rest).2.2 with
    | false =>
      rw [hmore] at hpc
      have hpc' : pieces sep s0 = pre ++ [(cutAt sep rest).1] := by simpa using hpc
      have HPC := Lib.hid hpc'
      have HJ3 := Lib.hid hJ3
      clear hpc hpc' hJ3 hlen HP hb3 hb13 hm3 hk3
      gi_wp2
      refine bodyPost_ret (results_none rfl _ _ _) rfl ?_
      exact ⟨⟨_, rfl⟩, by rw [HPC.out]; exact HJ3.out⟩
    | true =>
      rw [hmore] at hpc
      have hpc' : pieces sep s0 = (pre ++ [(cutAt sep rest).1]) ++ pieces sep (cutAt sep rest).2.1 := by simpa using hpc
      have HPC := Lib.hid hpc'
      have HJ3 := Lib.hid hJ3
      have HLEN := Lib.hid (hlen.2 hmore)
      have HB3 := Lib.hid hb3
      have HB13 := Lib.hid hb13
      have HM3 := Lib.hid hm3
      have c3 := cell_blk hb3 0
      have f3 := free_blk hb3 0
      simp only [List.getElem?_toArray, List.getElem?_cons_zero] at c3
      clear hpc hpc' hJ3 hlen HP hb3 hb13 hm3 hk3
      gi_wp2
      go_roundw
      case rel =>
        refine ⟨pre ++ [(cutAt sep rest).1], (cutAt sep rest).2.1, HPC.out, by have := HLEN.out; omega, HJ.out _ _ _ HJ3.out ((Chg.refl (fun k => k = box) W3).setCell (p := ⟨box, 0, none⟩) (.inl rfl) _), ?_, ?_, ?_⟩
        · rw [set_blk HB3.out]; simp
        · exact set_other HB13.out _ _ (by simp)
        · exact ((Chg.refl (fun k => k = box) W3).setCell (p := ⟨box, 0, none⟩) (.inl rfl) _).cell HM3.out (by simp; omega)
      case measure =>
        have e1 : (W3.setCell ⟨box, 0, none⟩ (.string (ofL (cutAt sep rest).2.1))).cell? ⟨box, 0, none⟩ = some (.string (ofL (cutAt sep rest).2.1)) := cell_blk (set_blk HB3.out 0 _) 0
        have e2 := cell_blk HB.out 0
        rw [boxLen_eq e1, boxLen_eq e2]
        simpa using HLEN.out
end Go.Proofs.YtgpmnicmgehmbaaGreatDoor


namespace Go.Proofs.YtgpmnicmgehmbaaGreatDoor
open Go.RowKit Lamp
set_option maxRecDepth 100000
set_option maxHeartbeats 400000

/-- The disk's own block. -/
def diskObj (d : Disk) (m : Nat) : Obj :=
  .cells #[.map (some m), .int .i64 d.room, .int .i64 d.used, .int .i64 d.ops, .int .i64 d.arm, .int .i64 d.keep, .int .i64 d.fail] 101 (0, 0)
/-- The panic when the power goes. -/
def crashed (op : Int) : Ending := .panicked [{ v := .iface 75 (.agg #[.int .i64 op]), recovered := false }]

section
variable {w : World} {pd m : Nat} {d : Disk}

theorem begin_disk (hb : w.heap[pd]? = some (diskObj d m)) (h0 : 0 ≤ d.ops) (h1 : d.ops < 4611686018427387000) :
    Calls Tryz.prog 116 #[.pointer (some ⟨pd, 0, none⟩)] w fun e w' => e = .returned (.bool d.begin.gone) ∧ w'.heap[pd]? = some (diskObj d.begin m) ∧ Chg (In [pd]) w w' := by
  have c3 := cell_blk hb 3
  have f3 := free_blk hb 3
  simp only [List.getElem?_toArray, List.getElem?_cons_succ, List.getElem?_cons_zero] at c3
  have hb1 := set_blk hb 3 (.int .i64 (d.ops + 1))
  have hc1 : Chg (In [pd]) w (w.setCell ⟨pd, 3, none⟩ (.int .i64 (d.ops + 1))) := (Chg.refl _ w).setCell (by simp) _
  go_enter Tryz.func116, Tryz.ntmps116
  go_wp2_with fail
  generalize w.setCell ⟨pd, 3, none⟩ (.int .i64 (d.ops + 1)) = w1 at hb1 hc1 ⊢
  have d3 := cell_blk hb1 3
  have d4 := cell_blk hb1 4
  simp only [List.getElem?_toArray, List.getElem?_cons_succ, List.getElem?_cons_zero, List.setIfInBounds_toArray, List.set_cons_succ, List.set_cons_zero] at d3 d4
  clear c3 f3
  go_quiet (fail)
  go_wp2_with fail
  go_ret
  refine ⟨rfl, ?_, hc1.drewN nq⟩
  rw [show (w1.drewN nq).heap = w1.heap from rfl, hb1]
  simp [diskObj, Disk.begin]

theorem crash_disk (hb : w.heap[pd]? = some (diskObj d m)) :
    Calls Tryz.prog 117 #[.pointer (some ⟨pd, 0, none⟩)] w fun e w' => e = crashed d.ops ∧ w'.heap[pd]? = some (diskObj d.crash m) ∧ Chg (In [pd]) w w' := by
  have c3 := cell_blk hb 3
  have c4 := cell_blk hb 4
  have f4 := free_blk hb 4
  simp only [List.getElem?_toArray, List.getElem?_cons_succ, List.getElem?_cons_zero] at c3 c4
  have hb1 := set_blk hb 4 (.int .i64 0)
  have hc1 : Chg (In [pd]) w (w.setCell ⟨pd, 4, none⟩ (.int .i64 0)) := (Chg.refl _ w).setCell (by simp) _
  go_enter Tryz.func117, Tryz.ntmps117
  go_wp2_with fail
  refine ⟨rfl, rfl, ?_, hc1⟩
  rw [hb1]
  simp [diskObj, Disk.crash]

/-- What a change comes to: done; or the power goes, the change done or not. -/
theorem change_none {F : FuncId} {caps : Array Value} {Post : World → Prop} (hcf : ∀ w, (callFunc F caps).run Tryz.prog w = .ok (.enter F caps) w) (hb : w.heap[pd]? = some (diskObj d m)) (h0 : 0 ≤ d.ops) (h1 : d.ops < 4611686018427387000)
    (hg : d.begin.gone = false) (hdo : ∀ w1, w1.heap[pd]? = some (diskObj d.begin m) → Chg (In [pd]) w w1 → Calls Tryz.prog F caps w1 fun e w2 => e = .returned (.tuple #[]) ∧ Post w2) :
    Calls Tryz.prog 85 #[.pointer (some ⟨pd, 0, none⟩), .func (.func F) #[] caps] w fun e w' => e = .returned (.tuple #[]) ∧ Post w' := by
  have HB := Lib.hid (begin_disk hb h0 h1)
  have HD := Lib.hid hdo
  have HG := Lib.hid hg
  clear hdo hg hb h0 h1
  go_enter Tryz.func85, Tryz.ntmps85
  go_wp2_with fail
  refine HB.out.mono ?_
  rintro e w1 ⟨rfl, hb1, hc1⟩
  rw [HG.out]
  go_wp2_with fail
  refine (HD.out w1 hb1 hc1).mono ?_
  rintro e w2 ⟨rfl, hp⟩
  go_wp2_with fail
  go_end0
  exact ⟨rfl, hp⟩

/-- The power goes, and the change isn't done. -/
theorem change_lost {F : FuncId} {caps : Array Value} (hb : w.heap[pd]? = some (diskObj d m)) (h0 : 0 ≤ d.ops) (h1 : d.ops < 4611686018427387000)
    (hg : d.begin.gone = true) (hk : d.keep % 2 = 0) :
    Calls Tryz.prog 85 #[.pointer (some ⟨pd, 0, none⟩), .func (.func F) #[] caps] w fun e w' => e = crashed (d.ops + 1) ∧ w'.heap[pd]? = some (diskObj d.begin.crash m) ∧ Chg (In [pd]) w w' := by
  have HB := Lib.hid (begin_disk hb h0 h1)
  have HG := Lib.hid hg
  clear hg hb h0 h1
  go_enter Tryz.func85, Tryz.ntmps85
  go_wp2_with fail
  refine HB.out.mono ?_
  rintro e w1 ⟨rfl, hb1, hc1⟩
  rw [HG.out]
  have c5 := cell_blk hb1 5
  simp only [List.getElem?_toArray, List.getElem?_cons_succ, List.getElem?_cons_zero] at c5
  have ho := odd_false d.begin.keep hk
  go_wp2_with fail
  refine (crash_disk hb1).mono ?_
  rintro e w2 ⟨rfl, hb2, hc2⟩
  exact ⟨rfl, rfl, hb2, hc1.trans hc2⟩

/-- The power goes, the change done. -/
theorem change_gone {F : FuncId} {caps : Array Value} {D2 : Disk} {Post : World → Prop} (hpost : ∀ w2, Post w2 → w2.heap[pd]? = some (diskObj D2 m)) (hop : D2.ops = d.ops + 1)
    (hcf : ∀ w, (callFunc F caps).run Tryz.prog w = .ok (.enter F caps) w) (hb : w.heap[pd]? = some (diskObj d m)) (h0 : 0 ≤ d.ops) (h1 : d.ops < 4611686018427387000)
    (hg : d.begin.gone = true) (hk : d.keep % 2 ≠ 0) (hdo : ∀ w1, w1.heap[pd]? = some (diskObj d.begin m) → Chg (In [pd]) w w1 → Calls Tryz.prog F caps w1 fun e w2 => e = .returned (.tuple #[]) ∧ Post w2) :
    Calls Tryz.prog 85 #[.pointer (some ⟨pd, 0, none⟩), .func (.func F) #[] caps] w fun e w' => e = crashed (d.ops + 1) ∧ ∃ w2, Post w2 ∧ w'.heap[pd]? = some (diskObj D2.crash m) ∧ Chg (In [pd]) w2 w' := by
  have HB := Lib.hid (begin_disk hb h0 h1)
  have HG := Lib.hid hg
  have HD := Lib.hid hdo
  have HP := Lib.hid hpost
  have HO := Lib.hid hop
  have ho := odd_true d.begin.keep hk
  clear hg hb h0 h1 hdo hpost hop hk
  go_enter Tryz.func85, Tryz.ntmps85
  go_wp2_with fail
  refine HB.out.mono ?_
  rintro e w1 ⟨rfl, hb1, hc1⟩
  rw [HG.out]
  have c5 := cell_blk hb1 5
  simp only [List.getElem?_toArray, List.getElem?_cons_succ, List.getElem?_cons_zero] at c5
  go_wp2_with fail
  refine (HD.out w1 hb1 hc1).mono ?_
  rintro e w2 ⟨rfl, hp⟩
  go_wp2_with fail
  refine (crash_disk (HP.out w2 hp)).mono ?_
  rintro e w3 ⟨rfl, hb3, hc3⟩
  exact ⟨rfl, by rw [HO.out]; rfl, w2, hp, hb3, hc3⟩

theorem setRoom_bad (n : Int) (h : n < 0 ∨ 1073741824 < n) (p : Addr) :
    Calls Tryz.prog 37 #[.pointer (some p), .int .i64 n] w fun e w' => e = .returned (.int .i64 3) ∧ w = w' := by
  by_cases h1 : n < 0
  · go_enter Tryz.func37, Tryz.ntmps37
    go_wp2_with fail
    go_ret
    exact ⟨rfl, rfl⟩
  · have h2 : 1073741824 < n := by omega
    go_enter Tryz.func37, Tryz.ntmps37
    go_wp2_with fail
    go_ret
    exact ⟨rfl, rfl⟩

theorem setRoom_ok (n : Int) (h1 : 0 ≤ n) (h2 : n ≤ 1073741824) (hb : w.heap[pd]? = some (diskObj d m)) :
    Calls Tryz.prog 37 #[.pointer (some ⟨pd, 0, none⟩), .int .i64 n] w fun e w' => e = .returned (.int .i64 0) ∧ w'.heap[pd]? = some (diskObj { d with room := n } m) ∧ Chg (In [pd]) w w' := by
  have c1 := cell_blk hb 1
  have f1 := free_blk hb 1
  simp only [List.getElem?_toArray, List.getElem?_cons_succ, List.getElem?_cons_zero] at c1
  have hb1 := set_blk hb 1 (.int .i64 n)
  have hc1 : Chg (In [pd]) w (w.setCell ⟨pd, 1, none⟩ (.int .i64 n)) := (Chg.refl _ w).setCell (by simp) _
  have HB := Lib.hid hb1
  clear hb1 hb
  go_enter Tryz.func37, Tryz.ntmps37
  go_wp2_with fail
  go_ret
  refine ⟨rfl, ?_, hc1⟩
  rw [HB.out]
  simp [diskObj]

theorem newDisk_bad (n : Int) (h : n < 0 ∨ 1073741824 < n) :
    Calls Tryz.prog 22 #[.int .i64 n] w fun e w' => e = .returned (.tuple #[.pointer none, .int .i64 3]) ∧ Below w.heap.size w w' := by
  have hmm := @run_makeMap Tryz.prog
  have HS := Lib.hid (fun w p => setRoom_bad (w := w) n h p)
  clear h
  go_enter Tryz.func22, Tryz.ntmps22
  go_wp2_with fail
  refine (HS.out _ _).mono ?_
  rintro e w1 ⟨rfl, rfl⟩
  go_wp2_with fail
  go_ret2
  exact ⟨rfl, ((Below.refl _ _).alloc (Nat.le_refl _) _).alloc (by simp) _⟩

theorem newDisk_ok (n : Int) (h1 : 0 ≤ n) (h2 : n ≤ 1073741824) :
    Calls Tryz.prog 22 #[.int .i64 n] w fun e w' => e = .returned (.tuple #[.pointer (some ⟨w.heap.size + 1, 0, none⟩), .int .i64 0]) ∧
      w'.heap[w.heap.size + 1]? = some (diskObj (Disk.new n) w.heap.size) ∧ w'.heap[w.heap.size]? = some (.map #[] 0) ∧ Below w.heap.size w w' := by
  have hmm := @run_makeMap Tryz.prog
  go_enter Tryz.func22, Tryz.ntmps22
  go_wp2_with fail
  refine (setRoom_ok (d := Disk.new 0) (m := w.heap.size) n h1 h2 (by rw [show w.heap.size + 1 = (w.alloc (Obj.map #[] 0)).heap.size from by simp]; exact heap_alloc_new _ _)).mono ?_
  rintro e w1 ⟨rfl, hb, hc⟩
  go_wp2_with fail
  go_ret2
  refine ⟨rfl, hb, ?_, ?_⟩
  · refine hc.heap (o := .map #[] 0) ?_ (by simp)
    rw [Below.heap_alloc _ _ _ (by simp)]
    exact heap_alloc_new _ _
  · exact ((((Chg.refl No w).alloc _).alloc _).then hc (fun i hi => by simp at hi; exact .inr (by omega))).below
end
end Go.Proofs.YtgpmnicmgehmbaaGreatDoor


namespace Go.Proofs.YtgpmnicmgehmbaaGreatDoor
open Go.RowKit Lamp

theorem ofL_inj {a b : Bytes} (h : ofL a = ofL b) : a = b := by
  have := congrArg (fun x : ByteArray => x.data.toList) h
  simpa [ofL] using this
theorem ofL_beq (a b : Bytes) : (ofL a == ofL b) = (a == b) := by
  show (a.toArray == b.toArray) = (a == b)
  rw [Bool.eq_iff_iff, beq_iff_eq, beq_iff_eq]
  exact ⟨fun h => by simpa using congrArg Array.toList h, fun h => by rw [h]⟩

/-- A key's place, and what lies there. -/
def place (s : Bytes) : List (Bytes × Value) → Nat → Option (Nat × Value)
  | [], _ => none
  | (k, v) :: l, i => if s = k then some (i, v) else place s l (i + 1)
/-- Block m is a map of these keys, in this order. -/
def MapAt (w : World) (m : Nat) (L : List (Bytes × Value)) : Prop :=
  ∃ es clock, w.heap[m]? = some (.map es clock) ∧ es.toList.map (fun e => (e.key, e.val)) = L.map fun p => (Value.string (ofL p.1), p.2)

theorem findNow_str (s : Bytes) : ∀ (es : List MapEntry) (L : List (Bytes × Value)) (i : Nat), es.map (fun e => (e.key, e.val)) = L.map (fun p => (Value.string (ofL p.1), p.2)) →
    Instr.findNow .string (.string (ofL s)) es i = some (place s L i)
  | [], [], _, _ => rfl
  | [], _ :: _, _, h => by simp at h
  | _ :: _, [], _, h => by simp at h
  | e :: es, (k, v) :: L, i, h => by
    simp only [List.map_cons, List.cons.injEq, Prod.mk.injEq] at h
    obtain ⟨⟨hk, hv⟩, ht⟩ := h
    simp only [Instr.findNow, hk, Instr.sameNow, ofL_beq, place]
    by_cases e1 : s = k
    · subst e1; simp [hv]
    · have : (s == k) = false := by simpa using e1
      rw [this, if_neg e1]
      exact findNow_str s es L (i + 1) ht

theorem MapAt.chg {S : Nat → Prop} {w w' : World} {m : Nat} {L : List (Bytes × Value)} (h : MapAt w m L) (hc : Chg S w w') (hm : ¬ S m) : MapAt w' m L := by
  obtain ⟨es, clock, h1, h2⟩ := h
  exact ⟨es, clock, hc.heap h1 hm, h2⟩
theorem MapAt.lt {w : World} {m : Nat} {L : List (Bytes × Value)} (h : MapAt w m L) : m < w.heap.size := by
  obtain ⟨es, clock, h1, _⟩ := h
  exact lt_of_heap h1

section
variable {P : Program} {w : World} {T kT eT m : Nat} {L : List (Bytes × Value)}
theorem checkKey_str (b : Bool) (hk : P.underlying kT = some .string) (s : ByteArray) (n : Nat) : (Instr.checkKey b (n + 1) kT (.string s)).run P w = .ok () w := by
  simp [Instr.checkKey, run_underlying hk]
theorem getObj_map {es : Array MapEntry} {clock : Nat} (h : w.heap[m]? = some (.map es clock)) : (getObj m).run P w = .ok (.map es clock) w := by
  simp [getObj, Sem.run, h]
theorem findKey_str (hk : P.underlying kT = some .string) (s : Bytes) {es : Array MapEntry} (he : es.toList.map (fun e => (e.key, e.val)) = L.map fun p => (Value.string (ofL p.1), p.2)) :
    (Instr.findKey kT (.string (ofL s)) es.toList).run P w = .ok (place s L 0) w := by
  simp [Instr.findKey, run_underlying hk, findNow_str s es.toList L 0 he]

theorem lookup_found (ht : P.underlying T = some (.map kT eT)) (hk : P.underlying kT = some .string) (h : MapAt w m L) (s : Bytes) {i : Nat} {v : Value} (hp : place s L 0 = some (i, v)) :
    (Instr.lookup T (.map (some m)) (.string (ofL s)) true).run P w = .ok (.tuple #[v, .bool true]) w := by
  obtain ⟨es, clock, h1, h2⟩ := h
  simp [Instr.lookup, run_underlying ht, getObj_map h1, checkKey_str _ hk, findKey_str hk s h2, hp]
theorem lookup_none (ht : P.underlying T = some (.map kT eT)) (hk : P.underlying kT = some .string) {z : Value} (hz : ∀ w, (zeroValue eT).run P w = .ok z w) (h : MapAt w m L) (s : Bytes) (hp : place s L 0 = none) :
    (Instr.lookup T (.map (some m)) (.string (ofL s)) true).run P w = .ok (.tuple #[z, .bool false]) w := by
  obtain ⟨es, clock, h1, h2⟩ := h
  simp [Instr.lookup, run_underlying ht, getObj_map h1, checkKey_str _ hk, findKey_str hk s h2, hp, hz]
/-- A key that wasn't there stands behind the others. -/
theorem update_new (ht : P.underlying T = some (.map kT eT)) (hk : P.underlying kT = some .string) (h : MapAt w m L) (s : Bytes) (v : Value) (hp : place s L 0 = none) :
    ∃ w', (Instr.mapUpdate T (.map (some m)) (.string (ofL s)) v).run P w = .ok () w' ∧ MapAt w' m (L ++ [(s, v)]) ∧ Chg (In [m]) w w' := by
  obtain ⟨es, clock, h1, h2⟩ := h
  have hlt := lt_of_heap h1
  refine ⟨{ w with heap := w.heap.setIfInBounds m (.map (es.push { key := .string (ofL s), val := v, born := clock }) (clock + 1)) }, ?_, ⟨es.push { key := .string (ofL s), val := v, born := clock }, clock + 1, by simp [hlt], ?_⟩, ?_⟩
  · simp [Instr.mapUpdate, run_underlying ht, getObj_map h1, checkKey_str _ hk, findKey_str hk s h2, hp, setObj, Sem.run, h1]
  · simp [h2]
  · exact ⟨rfl, rfl, rfl, by simp, fun k _ hn => by simp only [Array.getElem?_setIfInBounds]; rw [if_neg (by intro e; exact hn (by simp [e]))]⟩
end

/-- A new key, at the operation. -/
theorem wpList_mapNew {P : Program} {w : World} {ops : Array Oper} {rest : List Oper} {o : Oper} {a : Act} {Q : Exit → Act → World → Prop} (hgd : o.guard = none) (T : TypeId) (mo ko vo : Operand) (ho : o.op = .mapUpdate T mo ko vo)
    {kT eT m : Nat} {L : List (Bytes × Value)} (ht : P.underlying T = some (.map kT eT)) (hk : P.underlying kT = some .string) (s : Bytes) (v : Value) (hm : a.eval mo = .map (some m)) (hkk : a.eval ko = .string (ofL s)) (hv : a.eval vo = v)
    (h : MapAt w m L) (hp : place s L 0 = none) (hnext : ∀ w', MapAt w' m (L ++ [(s, v)]) → Chg (In [m]) w w' → wpList P ops Q rest (a.put o.dst undef) w') : wpList P ops Q (o :: rest) a w := by
  refine wpList_plain hgd fun K hK => ?_
  obtain ⟨w', hr, h1, h2⟩ := update_new ht hk h s v hp
  unfold Oper.wp execOp
  simp only [ho, hm, hkk, hv, Sem.run_bind, hr, Result.andThen_ok, Sem.run_pure]
  exact hK _ _ (hnext w' h1 h2)
end Go.Proofs.YtgpmnicmgehmbaaGreatDoor


namespace Go.Proofs.YtgpmnicmgehmbaaGreatDoor
open Go.RowKit Lamp
set_option maxRecDepth 100000
set_option maxHeartbeats 400000

/-- The bytes of names. -/
def nameSet : Bytes := [97, 98, 99, 100, 101, 102, 103, 104, 105, 106, 107, 108, 109, 110, 111, 112, 113, 114, 115, 116, 117, 118, 119, 120, 121, 122, 48, 49, 50, 51, 52, 53, 54, 55, 56, 57, 46]
theorem nameSet_spec : ∀ c : UInt8, nameSet.contains c = nameByte c := by
  intro c
  have h : ∀ n : Fin 256, nameSet.contains (UInt8.ofNat n.val) = nameByte (UInt8.ofNat n.val) := by decide +kernel
  have := h ⟨c.toNat, c.toNat_lt⟩
  simpa using this
theorem dropWhile_nil {p : UInt8 → Bool} : ∀ l : Bytes, l.dropWhile p = [] ↔ l.all p = true
  | [] => by simp
  | c :: l => by
    cases h : p c with
    | true => simp [h, dropWhile_nil l]
    | false => simp [h]
theorem trim_all (l : Bytes) : (Lib.trimS l nameSet = []) ↔ l.all nameByte = true := by
  have h1 : (fun c => nameSet.contains c) = nameByte := funext nameSet_spec
  unfold Lib.trimS Lib.trimRightS Lib.trimLeftS
  rw [h1, dropWhile_nil]
  constructor
  · intro h
    rcases hd : (l.reverse.dropWhile nameByte) with _ | ⟨c, r⟩
    · rw [dropWhile_nil] at hd
      simpa using hd
    · exfalso
      rw [hd] at h
      have h2 : nameByte c = false := by
        have := List.head?_dropWhile_not nameByte l.reverse
        rw [hd] at this
        simpa using this
      simp [h2] at h
  · intro h
    have : l.reverse.dropWhile nameByte = [] := by rw [dropWhile_nil]; simpa using h
    rw [this]
    rfl

theorem trim_calls (name : Bytes) (w : World) (hl : name.length ≤ 1000000) :
    Calls Tryz.prog 160 #[.string (ofL name), .string (ofL nameSet)] w fun e w' => e = .returned (.string (ofL (Lib.trimS name nameSet))) ∧ Below w.heap.size w w' :=
  (Any.strings_Trim_laid Tryz.lays160 (by kernel_rfl) (ofL name) (ofL nameSet) w (by rw [ofL_size]; omega) (by decide) (Go.Proofs.ascii_of_all (by decide))).mono fun _ _ h => by simpa [ofL] using h

theorem named_calls (name : Bytes) (w : World) (hl : name.length ≤ 1000000) :
    Calls Tryz.prog 115 #[.string (ofL name)] w fun e w' => e = .returned (.bool (named name)) ∧ Below w.heap.size w w' := by
  have HT := Lib.hid (trim_calls name)
  have HN := Lib.hid (show named name = (name ≠ [] && name.length ≤ 32 && name.all nameByte) from rfl)
  generalize named name = nm at HN ⊢
  by_cases h0 : name = []
  · subst h0
    have hn : nm = false := by rw [HN.out]; rfl
    subst hn
    go_enter Tryz.func115, Tryz.ntmps115
    go_wp2_with fail
    go_ret
    exact ⟨rfl, Below.refl _ _⟩
  · have hi : name.isEmpty = false := by simpa using h0
    have hi2 : (!name.isEmpty) = true := by simpa using h0
    by_cases h1 : name.length ≤ 32
    · have h2 : ((name.length : Int)) ≤ 32 := by omega
      have h3 : Hid (nm = (Lib.trimS name nameSet).isEmpty) := by
        show nm = _
        rw [HN.out]
        simp only [ne_eq, h0, not_false_eq_true, decide_true, h1, Bool.and_self, Bool.true_and]
        rw [Bool.eq_iff_iff, List.isEmpty_iff, trim_all]
      go_enter Tryz.func115, Tryz.ntmps115
      go_wp2_with fail
      refine (HT.out _ hl).mono ?_
      rintro e w1 ⟨rfl, hb⟩
      go_wp2_with fail
      go_ret
      exact ⟨by rw [h3.out]; rfl, hb⟩
    · have h2 : ¬ ((name.length : Int)) ≤ 32 := by omega
      have h2' : decide (((name.length : Int)) ≤ 32) = false := by simpa using h2
      have hn : nm = false := by rw [HN.out]; simp [h1]
      subst hn
      go_enter Tryz.func115, Tryz.ntmps115
      go_wp2_with fail
      go_ret
      exact ⟨rfl, Below.refl _ _⟩

/-- A file in memory: its name, its block, its bytes' slice. -/
structure FR where
  name : Bytes
  fb : Nat
  v : Value
  f : File

def fileObj (v : Value) (safe : Int) : Obj := .cells #[v, .int .i64 safe] 138 (0, 0)
def FR.blocks (r : FR) : List Nat := r.fb :: r.v.ownBlock.toList
def diskBlocks (pd m : Nat) (fs : List FR) : List Nat := pd :: m :: fs.flatMap FR.blocks

/-- A disk in memory. -/
structure DiskAt (w : World) (pd m : Nat) (d : Disk) (fs : List FR) : Prop where
  blk : w.heap[pd]? = some (diskObj d m)
  map : MapAt w m (fs.map fun r => (r.name, .pointer (some ⟨r.fb, 0, none⟩)))
  told : d.files = fs.map fun r => (r.name, r.f)
  each : ∀ r ∈ fs, w.heap[r.fb]? = some (fileObj r.v r.f.safe) ∧ Own w 5 r.v (r.f.b.map u8)
  apart : (diskBlocks pd m fs).Nodup

theorem place_none {name : Bytes} {fs : List FR} (h : fileOf name (fs.map fun r => (r.name, r.f)) = none) (i : Nat) : place name (fs.map fun r => (r.name, Value.pointer (some ⟨r.fb, 0, none⟩))) i = none := by
  induction fs generalizing i with
  | nil => rfl
  | cons r l ih =>
    simp only [List.map_cons, fileOf] at h
    simp only [List.map_cons, place]
    by_cases e : r.name = name
    · simp [e] at h
    · rw [if_neg e] at h
      rw [if_neg (fun x => e x.symm)]
      exact ih h _
theorem place_some {name : Bytes} {fs : List FR} {f : File} (h : fileOf name (fs.map fun r => (r.name, r.f)) = some f) (i : Nat) :
    ∃ l1 r l2, fs = l1 ++ r :: l2 ∧ r.name = name ∧ r.f = f ∧ (∀ x ∈ l1, x.name ≠ name) ∧ place name (fs.map fun r => (r.name, Value.pointer (some ⟨r.fb, 0, none⟩))) i = some (i + l1.length, .pointer (some ⟨r.fb, 0, none⟩)) := by
  induction fs generalizing i with
  | nil => simp [fileOf] at h
  | cons r l ih =>
    simp only [List.map_cons, fileOf] at h
    by_cases e : r.name = name
    · rw [if_pos e] at h
      exact ⟨[], r, l, rfl, e, by simpa using h, by simp, by simp [place, e]⟩
    · rw [if_neg e] at h
      obtain ⟨l1, r', l2, h1, h2, h3, h4, h5⟩ := ih h (i + 1)
      refine ⟨r :: l1, r', l2, by rw [h1]; rfl, h2, h3, ?_, ?_⟩
      · intro x hx
        simp only [List.mem_cons] at hx
        rcases hx with rfl | hx
        · exact e
        · exact h4 x hx
      · simp only [List.map_cons, place]
        rw [if_neg (fun x => e x.symm), h5]
        simp; omega
theorem layFile_none {name : Bytes} (g : File) {l : List (Bytes × File)} (h : fileOf name l = none) : layFile name g l = l ++ [(name, g)] := by
  induction l with
  | nil => rfl
  | cons r l ih =>
    obtain ⟨k, f⟩ := r
    simp only [fileOf] at h
    by_cases e : k = name
    · simp [e] at h
    · rw [if_neg e] at h
      simp [layFile, e, ih h]
theorem layFile_mid {name : Bytes} (g : File) {l1 l2 : List FR} {r : FR} (h1 : ∀ x ∈ l1, x.name ≠ name) (h2 : r.name = name) :
    layFile name g ((l1 ++ r :: l2).map fun r => (r.name, r.f)) = (l1.map fun r => (r.name, r.f)) ++ (name, g) :: (l2.map fun r => (r.name, r.f)) := by
  induction l1 with
  | nil => simp [layFile, h2]
  | cons x l ih =>
    have hx : x.name ≠ name := h1 x (by simp)
    simp [layFile, hx] at ih ⊢
    exact ih (fun y hy => h1 y (by simp [hy]))
theorem zero_ptr (w : World) : (zeroValue 135).run Tryz.prog w = .ok (.pointer none) w := by kernel_rfl

section
variable {w : World} {pd m : Nat} {d : Disk} {fs : List FR}

theorem read_none (h : DiskAt w pd m d fs) (name : Bytes) (hn : fileOf name d.files = none) :
    Calls Tryz.prog 40 #[.pointer (some ⟨pd, 0, none⟩), .string (ofL name)] w fun e w' => e = .returned (.tuple #[.slice none 0 0, .int .i64 6]) ∧ w = w' := by
  have c0 := cell_blk h.blk 0
  simp only [List.getElem?_toArray, List.getElem?_cons_zero] at c0
  rw [h.told] at hn
  have hl := lookup_none (P := Tryz.prog) Tryz.underlying99 Tryz.underlying9 zero_ptr h.map name (place_none hn 0)
  clear hn
  go_enter Tryz.func40, Tryz.ntmps40
  go_wp2_with fail
  go_ret2
  exact ⟨rfl, rfl⟩
end

theorem diskBlocks_mid (pd m : Nat) (l1 : List FR) (r : FR) (l2 : List FR) : diskBlocks pd m (l1 ++ r :: l2) = (pd :: m :: l1.flatMap FR.blocks ++ [r.fb]) ++ (r.v.ownBlock.toList ++ l2.flatMap FR.blocks) := by
  simp [diskBlocks, FR.blocks]
theorem mem_diskBlocks {pd m k : Nat} {fs : List FR} : k ∈ diskBlocks pd m fs ↔ k = pd ∨ k = m ∨ ∃ r ∈ fs, k = r.fb ∨ r.v.ownBlock = some k := by
  simp [diskBlocks, FR.blocks]
theorem DiskAt.lt {w : World} {pd m : Nat} {d : Disk} {fs : List FR} (h : DiskAt w pd m d fs) : ∀ k ∈ diskBlocks pd m fs, k < w.heap.size := by
  intro k hk
  rcases mem_diskBlocks.1 hk with rfl | rfl | ⟨r, hr, rfl | hk⟩
  · exact lt_of_heap h.blk
  · exact h.map.lt
  · exact lt_of_heap (h.each r hr).1
  · exact (h.each r hr).2.lt hk
theorem nodup_swap {X o o' Z : List Nat} (h : (X ++ (o ++ Z)).Nodup) (h' : o'.Nodup) (hn : ∀ k ∈ o', k ∉ X ∧ k ∉ Z) : (X ++ (o' ++ Z)).Nodup := by
  rw [(List.perm_append_comm_assoc X o Z).nodup_iff, List.nodup_append] at h
  rw [(List.perm_append_comm_assoc X o' Z).nodup_iff, List.nodup_append]
  refine ⟨h', h.2.1, fun a ha b hb e => ?_⟩
  subst e
  rcases List.mem_append.1 hb with hb | hb
  · exact (hn a ha).1 hb
  · exact (hn a ha).2 hb

/-- One file's block, and its bytes, are turned. -/
theorem DiskAt.file {w w' : World} {pd m : Nat} {d : Disk} {l1 l2 : List FR} {r : FR} {v' : Value} {b' : Bytes} {s' : Int} (h : DiskAt w pd m d (l1 ++ r :: l2)) (hl1 : ∀ x ∈ l1, x.name ≠ r.name)
    (hb : w'.heap[r.fb]? = some (fileObj v' s')) (ho : Own w' 5 v' (b'.map u8)) (hc : Chg (fun k => k = r.fb ∨ r.v.ownBlock = some k) w w') (hk : ∀ k, v'.ownBlock = some k → r.v.ownBlock = some k ∨ w.heap.size ≤ k) :
    DiskAt w' pd m { d with files := layFile r.name ⟨b', s'⟩ d.files } (l1 ++ ⟨r.name, r.fb, v', ⟨b', s'⟩⟩ :: l2) := by
  have hap := h.apart
  have hlt := h.lt
  rw [diskBlocks_mid] at hap
  have hap2 := hap
  rw [List.nodup_append] at hap2
  obtain ⟨hX, hoZ, hd⟩ := hap2
  rw [List.nodup_append] at hX hoZ
  obtain ⟨hA, _, hAf⟩ := hX
  obtain ⟨_, hZ, hoz⟩ := hoZ
  have hX1 : ∀ k, k ∈ pd :: m :: l1.flatMap FR.blocks → k ≠ r.fb ∧ r.v.ownBlock ≠ some k := fun k hk' => ⟨fun e => hAf k hk' r.fb (by simp) e, fun e => hd k (by simp only [List.mem_append]; exact .inl hk') k (by simp [e]) rfl⟩
  have hZ1 : ∀ k, k ∈ l2.flatMap FR.blocks → k ≠ r.fb ∧ r.v.ownBlock ≠ some k := fun k hk' => ⟨fun e => hd r.fb (by simp) k (by simp only [List.mem_append]; exact .inr hk') e.symm, fun e => hoz k (by simp [e]) k hk' rfl⟩
  have hbl : ∀ x ∈ l1 ++ l2, ∀ k ∈ FR.blocks x, k ≠ r.fb ∧ r.v.ownBlock ≠ some k := by
    intro x hx k hk'
    rcases List.mem_append.1 hx with hx | hx
    · exact hX1 k (by simp only [List.mem_cons]; exact .inr (.inr (List.mem_flatMap.2 ⟨x, hx, hk'⟩)))
    · exact hZ1 k (List.mem_flatMap.2 ⟨x, hx, hk'⟩)
  have hnot : ∀ k, k ≠ r.fb ∧ r.v.ownBlock ≠ some k → ¬ (k = r.fb ∨ r.v.ownBlock = some k) := fun k hk' x => x.elim hk'.1 hk'.2
  refine ⟨hc.heap h.blk (hnot _ (hX1 pd (by simp))), ?_, ?_, ?_, ?_⟩
  · have := h.map.chg hc (hnot _ (hX1 m (by simp)))
    simpa using this
  · show layFile r.name ⟨b', s'⟩ d.files = _
    rw [h.told, layFile_mid _ hl1 rfl]
    simp
  · intro x hx
    simp only [List.mem_append, List.mem_cons] at hx
    rcases hx with hx | rfl | hx
    · have := h.each x (by simp [hx])
      exact ⟨hc.heap this.1 (hnot _ (hbl x (by simp [hx]) _ (by simp [FR.blocks]))), this.2.kept hc (fun k hk' => hnot _ (hbl x (by simp [hx]) _ (by simp [FR.blocks, hk'])))⟩
    · exact ⟨hb, ho⟩
    · have := h.each x (by simp [hx])
      exact ⟨hc.heap this.1 (hnot _ (hbl x (by simp [hx]) _ (by simp [FR.blocks]))), this.2.kept hc (fun k hk' => hnot _ (hbl x (by simp [hx]) _ (by simp [FR.blocks, hk'])))⟩
  · rw [diskBlocks_mid]
    refine nodup_swap hap (by cases v'.ownBlock <;> simp) (fun k hk' => ?_)
    rw [Option.mem_toList] at hk'
    have hin : ∀ j ∈ pd :: m :: l1.flatMap FR.blocks ++ [r.fb], j < w.heap.size := fun j hj => hlt j (by rw [diskBlocks_mid]; exact List.mem_append.2 (.inl hj))
    have hin2 : ∀ j ∈ l2.flatMap FR.blocks, j < w.heap.size := fun j hj => hlt j (by rw [diskBlocks_mid]; exact List.mem_append.2 (.inr (List.mem_append.2 (.inr hj))))
    rcases hk k hk' with e | e
    · exact ⟨fun hj => hd k hj k (by simp [e]) rfl, fun hj => hoz k (by simp [e]) k hj rfl⟩
    · exact ⟨fun hj => by have := hin k hj; omega, fun hj => by have := hin2 k hj; omega⟩
end Go.Proofs.YtgpmnicmgehmbaaGreatDoor
