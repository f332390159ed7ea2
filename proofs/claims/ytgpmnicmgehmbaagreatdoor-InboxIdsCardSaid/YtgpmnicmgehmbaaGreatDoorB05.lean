/- The disk's Truncate and Sync: the calls.
   Sums of bytes: the table's rows, Update, Sum.
   Records of a log: four, Size, Put.
   Plain laws of the disk and the log: what is small stays small.
   The log: its state in memory, cut, Add. -/
import Derived.Test.YtgpmnicmgehmbaaGreatDoorB04
import Derived.Test.YtgpmnicmgehmbaaGreatDoorB01
import Derived.Test.YtgpmnicmgehmbaaGreatDoorB02
import Derived.Laws.Tables
import Derived.Laws.Rows
import Derived.StillTailTactics

namespace Go.Proofs.YtgpmnicmgehmbaaGreatDoor
open Go.RowKit Lamp
set_option maxRecDepth 100000
set_option maxHeartbeats 400000

section
variable {w : World} {pd m : Nat} {d : Disk} {fs : List FR}

theorem DiskAt.kept {S : Nat → Prop} {W : World} (h : DiskAt w pd m d fs) (hc : Chg S w W) (hS : ∀ k ∈ diskBlocks pd m fs, ¬ S k) : DiskAt W pd m d fs :=
  ⟨hc.heap h.blk (hS _ (pd_in _ _ _)), h.map.chg hc (hS _ (by simp [diskBlocks])), h.told,
    fun r hr => ⟨hc.heap (h.each r hr).1 (hS _ (mem_diskBlocks.2 (.inr (.inr ⟨r, hr, .inl rfl⟩)))), (h.each r hr).2.kept hc (fun k hk => hS _ (mem_diskBlocks.2 (.inr (.inr ⟨r, hr, .inr hk⟩))))⟩, h.apart⟩
theorem DiskAt.old {W : World} (h : DiskAt w pd m d fs) (hc : Chg No w W) : DiskAt W pd m d fs := h.kept hc (fun _ _ x => x)
theorem DiskAt.past (h : DiskAt w pd m d fs) {a : Nat} (ha : w.heap.size ≤ a) : a ∉ diskBlocks pd m fs := fun hk => by have := h.lt a hk; omega

theorem trunc_change {W : World} {l1 l2 : List FR} {r : FR} (n : Nat) (h : DiskAt w pd m d (l1 ++ r :: l2)) (hl1 : ∀ x ∈ l1, x.name ≠ r.name) (hn : n ≤ r.f.b.length) (hfl : r.f.b.length ≤ 1073741824)
    (h0 : 0 ≤ d.ops) (h1 : d.ops < 4611686018427387000) (hu0 : 0 ≤ d.used) (hu1 : d.used ≤ 1073741824) {a1 a2 a3 : Nat} (hc : Chg No w W) (ha1 : w.heap.size ≤ a1) (ha2 : w.heap.size ≤ a2) (ha3 : w.heap.size ≤ a3)
    (c1 : W.cell? ⟨a1, 0, none⟩ = some (.pointer (some ⟨pd, 0, none⟩))) (c2 : W.cell? ⟨a2, 0, none⟩ = some (.pointer (some ⟨r.fb, 0, none⟩))) (c3 : W.cell? ⟨a3, 0, none⟩ = some (.int .i64 n)) :
    Calls Tryz.prog 85 #[.pointer (some ⟨pd, 0, none⟩), .func (.func 123) #[] #[.pointer (some ⟨a1, 0, none⟩), .pointer (some ⟨a2, 0, none⟩), .pointer (some ⟨a3, 0, none⟩)]] W fun e w' =>
      e = endRes (d.change (fun d => { d with used := d.used - (r.f.b.length - n), files := layFile r.name ⟨r.f.b.take n, min r.f.safe n⟩ d.files }) (0 : Int)).2 ∧
      DiskTo w w' pd m (l1 ++ r :: l2) (d.change (fun d => { d with used := d.used - (r.f.b.length - n), files := layFile r.name ⟨r.f.b.take n, min r.f.safe n⟩ d.files }) (0 : Int)).1 := by
  refine (change_calls (0 : Int) (h.old hc) rfl (fun w => by kernel_rfl) h0 h1 (fun w1 hD1 hc1 => ?_)).mono (fun e w' x => ⟨x.1, x.2.before (hc.mono (fun _ _ x => x.elim))⟩)
  have hp : ∀ a, w.heap.size ≤ a → a ≠ pd := fun a ha e => by have := lt_of_heap h.blk; omega
  exact cut_calls n hD1 hl1 hn hfl hu0 hu1 (hc1.cell c1 (by simpa using hp _ ha1)) (hc1.cell c2 (by simpa using hp _ ha2)) (hc1.cell c3 (by simpa using hp _ ha3)) (h.past ha1) (h.past ha2) (h.past ha3)

theorem sync_change {l1 l2 : List FR} {r : FR} (fails : Bool) (h : DiskAt w pd m d (l1 ++ r :: l2)) (hl1 : ∀ x ∈ l1, x.name ≠ r.name)
    (h0 : 0 ≤ d.ops) (h1 : d.ops < 4611686018427387000) {a1 a2 : Nat} (n1 : a1 ∉ diskBlocks pd m (l1 ++ r :: l2)) (n2 : a2 ∉ diskBlocks pd m (l1 ++ r :: l2))
    (c1 : w.cell? ⟨a1, 0, none⟩ = some (.bool fails)) (c2 : w.cell? ⟨a2, 0, none⟩ = some (.pointer (some ⟨r.fb, 0, none⟩))) (a : Int) :
    Calls Tryz.prog 85 #[.pointer (some ⟨pd, 0, none⟩), .func (.func 86) #[] #[.pointer (some ⟨a1, 0, none⟩), .pointer (some ⟨a2, 0, none⟩)]] w fun e w' =>
      e = endRes (d.change (fun d => if fails = true then d else { d with files := layFile r.name ⟨r.f.b, r.f.b.length⟩ d.files }) a).2 ∧ w'.cell? ⟨a1, 0, none⟩ = some (.bool fails) ∧
      DiskTo w w' pd m (l1 ++ r :: l2) (d.change (fun d => if fails = true then d else { d with files := layFile r.name ⟨r.f.b, r.f.b.length⟩ d.files }) a).1 := by
  refine (change_calls a h (by cases fails <;> rfl) (fun w => by kernel_rfl) h0 h1 (fun w1 hD1 hc1 => ?_)).mono (fun e w' x => ⟨x.1, ?_, x.2⟩)
  · have hp : ∀ a, a ∉ diskBlocks pd m (l1 ++ r :: l2) → a ≠ pd := fun a ha e => ha (e ▸ pd_in _ _ _)
    cases fails with
    | true =>
      refine (still_calls (hc1.cell c1 (by simpa using hp _ n1))).mono ?_
      rintro e w2 ⟨rfl, rfl⟩
      exact ⟨rfl, DiskTo.same hD1⟩
    | false => exact safe_calls hD1 hl1 (hc1.cell c1 (by simpa using hp _ n1)) (hc1.cell c2 (by simpa using hp _ n2))
  · obtain ⟨fs', _, y, _⟩ := x.2
    exact y.cell c1 n1

/-- How a call that answers a number ends. -/
def endInt : Res Int → Ending
  | .ok k => .returned (.int .i64 k)
  | .lost op => crashed op
theorem endInt_change {f : Disk → Disk} {a : Int} (d : Disk) : endInt (d.change f a).2 = (match endRes (d.change f a).2 with | .returned _ => .returned (.int .i64 a) | e => e) := by
  simp only [Disk.change]
  split <;> rfl

theorem truncate_none (n : Int) (h : DiskAt w pd m d fs) (name : Bytes) (hlk : fileOf name d.files = none) :
    Calls Tryz.prog 84 #[.pointer (some ⟨pd, 0, none⟩), .string (ofL name), .int .i64 n] w fun e w' => e = .returned (.int .i64 6) ∧ Chg No w w' := by
  have c0 := cell_blk h.blk 0
  simp only [List.getElem?_toArray, List.getElem?_cons_zero] at c0
  have c0a := fun o1 o2 => cell_al (cell_al c0 o1) o2
  rw [h.told] at hlk
  have hl := fun o1 o2 => lookup_none (P := Tryz.prog) Tryz.underlying99 Tryz.underlying9 zero_ptr (h.map.chg (((Chg.refl No w).alloc o1).alloc o2) (fun x => x)) name (place_none hlk 0)
  clear hlk
  go_enter Tryz.func84, Tryz.ntmps84
  go_wp2_with fail
  go_ret
  exact ⟨rfl, (((Chg.refl No w).alloc _).alloc _).alloc _⟩

theorem truncate_some (n : Int) {f : File} (h : DiskAt w pd m d fs) (name : Bytes) (hlk : fileOf name d.files = some f) (h0 : 0 ≤ d.ops) (h1 : d.ops < 4611686018427387000) (hu0 : 0 ≤ d.used) (hu1 : d.used ≤ 1073741824) (hfl : f.b.length ≤ 1073741824) :
    Calls Tryz.prog 84 #[.pointer (some ⟨pd, 0, none⟩), .string (ofL name), .int .i64 n] w fun e w' => e = endInt (d.truncate name n).2 ∧ DiskTo w w' pd m fs (d.truncate name n).1 := by
  have HLK := Lib.hid hlk
  have c0 := cell_blk h.blk 0
  simp only [List.getElem?_toArray, List.getElem?_cons_zero] at c0
  have c0a := fun o1 o2 => cell_al (cell_al c0 o1) o2
  rw [h.told] at hlk
  obtain ⟨l1, r, l2, hfs, hrn, hrf, hl1, hpl⟩ := place_some hlk 0
  have hl := fun o1 o2 => lookup_found (P := Tryz.prog) Tryz.underlying99 Tryz.underlying9 (h.map.chg (((Chg.refl No w).alloc o1).alloc o2) (fun x => x)) name hpl
  clear hlk hpl
  subst hfs
  subst hrn
  subst hrf
  have hr := h.each r (by simp)
  obtain ⟨q, cap, hv⟩ := hr.2.slice
  rw [List.length_map] at hv
  have d0 : w.cell? ⟨r.fb, 0, none⟩ = some (.slice q r.f.b.length cap) := by rw [← hv]; exact cell_blk hr.1 0
  have d0a := fun o1 o2 o3 => cell_al (cell_al (cell_al d0 o1) o2) o3
  have H := Lib.hid h
  have HL1 := Lib.hid hl1
  have H0 := Lib.hid h0
  have H1 := Lib.hid h1
  have HS := Lib.hid (show d.truncate r.name n = _ by unfold Disk.truncate; rw [HLK.out])
  clear h0 h1 hl1 hr hv h
  by_cases hn0 : n < 0
  · have hs : Hid (d.truncate r.name n = (d, .ok 3)) := by show _ = _; rw [HS.out]; simp [hn0]
    clear HS
    go_enter Tryz.func84, Tryz.ntmps84
    go_wp2_with fail
    go_quiet (fail)
    go_wp2_with fail
    go_ret
    rw [hs.out]
    exact ⟨rfl, (DiskTo.same (H.out.old (((((Chg.refl No w).alloc _).alloc _).alloc _).drewN nq))).before (((((Chg.refl _ w).alloc _).alloc _).alloc _).drewN nq)⟩
  · by_cases hn1 : (r.f.b.length : Int) < n
    · have hs : Hid (d.truncate r.name n = (d, .ok 3)) := by show _ = _; rw [HS.out]; simp [hn1]
      clear HS
      have hd0 : decide (n < 0) = false := by simpa using hn0
      go_enter Tryz.func84, Tryz.ntmps84
      go_wp2_with fail
      go_quiet (fail)
      go_wp2_with fail
      go_ret
      rw [hs.out]
      exact ⟨rfl, (DiskTo.same (H.out.old (((((Chg.refl No w).alloc _).alloc _).alloc _).drewN nq))).before (((((Chg.refl _ w).alloc _).alloc _).alloc _).drewN nq)⟩
    · obtain ⟨k, rfl⟩ := Int.eq_ofNat_of_zero_le (by omega : 0 ≤ n)
      have hs : Hid (d.truncate r.name k = d.change (fun d => { d with used := d.used - (r.f.b.length - k), files := layFile r.name ⟨r.f.b.take k, min r.f.safe k⟩ d.files }) 0) := by
        show _ = _; rw [HS.out]; simp only []; rw [if_neg (by omega)]; rfl
      clear HS
      obtain ⟨⟨D, R⟩, hD⟩ : ∃ x, x = d.change (fun d => { d with used := d.used - (r.f.b.length - k), files := layFile r.name ⟨r.f.b.take k, min r.f.safe k⟩ d.files }) (0 : Int) := ⟨_, rfl⟩
      have HR := Lib.hid (endInt_change (f := fun d => { d with used := d.used - (r.f.b.length - k), files := layFile r.name ⟨r.f.b.take k, min r.f.safe k⟩ d.files }) (a := 0) d)
      rw [← hD] at hs HR
      rw [hs.out]
      have HD := Lib.hid hD
      clear hD
      have hd0 : decide ((k : Int) < 0) = false := by simp
      have hd1 : decide ((r.f.b.length : Int) < k) = false := by simpa using hn1
      go_enter Tryz.func84, Tryz.ntmps84
      go_wp2_with fail
      go_quiet (fail)
      go_wp2_with fail
      refine (trunc_change k H.out HL1.out (by omega) hfl H0.out H1.out hu0 hu1 (((((Chg.refl No w).alloc _).alloc _).alloc _).drewN nq) (by omega) (by omega) (by omega) ?_ ?_ ?_).mono ?_
      · go_simp
      · go_simp
      · go_simp
      rintro e' w' ⟨he, hto⟩
      rw [← HD.out] at he hto
      subst he
      cases R with
      | ok x =>
        go_wp2_with fail
        go_ret
        exact ⟨HR.out.symm, hto⟩
      | lost op => exact ⟨rfl, rfl, hto⟩

theorem sync_none (h : DiskAt w pd m d fs) (name : Bytes) (hlk : fileOf name d.files = none) :
    Calls Tryz.prog 56 #[.pointer (some ⟨pd, 0, none⟩), .string (ofL name)] w fun e w' => e = .returned (.int .i64 6) ∧ Chg No w w' := by
  have c0 := cell_blk h.blk 0
  simp only [List.getElem?_toArray, List.getElem?_cons_zero] at c0
  rw [h.told] at hlk
  have hl := lookup_none (P := Tryz.prog) Tryz.underlying99 Tryz.underlying9 zero_ptr h.map name (place_none hlk 0)
  clear hlk
  go_enter Tryz.func56, Tryz.ntmps56
  go_wp2_with fail
  go_ret
  exact ⟨rfl, (Chg.refl No w).alloc _⟩

theorem sync_some {f : File} (h : DiskAt w pd m d fs) (name : Bytes) (hlk : fileOf name d.files = some f) (h0 : 0 ≤ d.ops) (h1 : d.ops < 4611686018427387000) (hf0 : 0 ≤ d.fail) (hf1 : d.fail ≤ 9223372036854775807) :
    Calls Tryz.prog 56 #[.pointer (some ⟨pd, 0, none⟩), .string (ofL name)] w fun e w' => e = endInt (d.sync name).2 ∧ DiskTo w w' pd m fs (d.sync name).1 := by
  have HLK := Lib.hid hlk
  have c0 := cell_blk h.blk 0
  have c6 := cell_blk h.blk 6
  have f6 := free_blk h.blk 6
  simp only [List.getElem?_toArray, List.getElem?_cons_succ, List.getElem?_cons_zero] at c0 c6
  rw [h.told] at hlk
  obtain ⟨l1, r, l2, hfs, hrn, hrf, hl1, hpl⟩ := place_some hlk 0
  have hl := lookup_found (P := Tryz.prog) Tryz.underlying99 Tryz.underlying9 h.map name hpl
  clear hlk hpl
  subst hfs
  subst hrn
  subst hrf
  have hwr : IntKind.i64.wrap (d.fail - 1) = d.fail - 1 := by simp [IntKind.wrap, IntKind.bits, IntKind.signed]; omega
  have HS : Hid (d.sync r.name = ({ d with fail := max 0 (d.fail - 1) } : Disk).change (fun D => if (d.fail == 1) = true then D else { D with files := layFile r.name ⟨r.f.b, r.f.b.length⟩ D.files }) (if (d.fail == 1) = true then 5 else 0)) := by
    show d.sync r.name = _; unfold Disk.sync; rw [HLK.out]
  have H := Lib.hid h
  have HL1 := Lib.hid hl1
  have H0 := Lib.hid h0
  have H1 := Lib.hid h1
  clear h0 h1 hl1 h
  have c0a := fun o1 => cell_al c0 o1
  have c6a := fun o1 => cell_al c6 o1
  have c6b := fun o1 o2 => cell_al (cell_al c6 o1) o2
  have f6b := fun o1 o2 => free_al (cell_al c6 o1) (free_al c6 f6 o1) o2
  go_enter Tryz.func56, Tryz.ntmps56
  go_wp2_with fail
  have hW : Chg (In [pd]) w (((w.alloc (Obj.cells #[Value.pointer (some { block := r.fb, off := 0 })] 135)).alloc (Obj.cells #[Value.bool (d.fail == 1)] 4)).setCell ⟨pd, 6, none⟩ (.int .i64 (max 0 (d.fail - 1)))) :=
    (((Chg.refl _ w).alloc _).alloc _).setCell (by simp) _
  have hA : Chg No w ((w.alloc (Obj.cells #[Value.pointer (some { block := r.fb, off := 0 })] 135)).alloc (Obj.cells #[Value.bool (d.fail == 1)] 4)) := ((Chg.refl _ w).alloc _).alloc _
  have hD1 := H.out.turn (d' := { d with fail := max 0 (d.fail - 1) }) (by rw [set_blk (hA.heap H.out.blk (fun x => x)) 6]; simp [diskObj]) rfl hW
  have n1 : w.heap.size + 1 ∉ diskBlocks pd m (l1 ++ r :: l2) := H.out.past (by omega)
  have n2 : w.heap.size ∉ diskBlocks pd m (l1 ++ r :: l2) := H.out.past (by omega)
  have hnp : w.heap.size ≠ pd := fun e => n2 (e ▸ pd_in _ _ _)
  have hnp1 : w.heap.size + 1 ≠ pd := fun e => n1 (e ▸ pd_in _ _ _)
  have b1 : (((w.alloc (Obj.cells #[Value.pointer (some { block := r.fb, off := 0 })] 135)).alloc (Obj.cells #[Value.bool (d.fail == 1)] 4)).setCell ⟨pd, 6, none⟩ (.int .i64 (max 0 (d.fail - 1)))).cell? ⟨w.heap.size + 1, 0, none⟩ = some (.bool (d.fail == 1)) := by
    rw [cell_blk (set_other (by rw [show w.heap.size + 1 = (w.alloc (Obj.cells #[Value.pointer (some { block := r.fb, off := 0 })] 135)).heap.size from by simp]; exact heap_alloc_new _ _) 6 _ hnp1) 0]
    rfl
  have b2 : (((w.alloc (Obj.cells #[Value.pointer (some { block := r.fb, off := 0 })] 135)).alloc (Obj.cells #[Value.bool (d.fail == 1)] 4)).setCell ⟨pd, 6, none⟩ (.int .i64 (max 0 (d.fail - 1)))).cell? ⟨w.heap.size, 0, none⟩ = some (.pointer (some ⟨r.fb, 0, none⟩)) := by
    rw [cell_blk (set_other (by rw [Below.heap_alloc _ _ _ (by simp)]; exact heap_alloc_new _ _) 6 _ hnp) 0]
    rfl
  generalize (((w.alloc (Obj.cells #[Value.pointer (some { block := r.fb, off := 0 })] 135)).alloc (Obj.cells #[Value.bool (d.fail == 1)] 4)).setCell ⟨pd, 6, none⟩ (.int .i64 (max 0 (d.fail - 1)))) = W at hW hD1 b1 b2 ⊢
  have HW := Lib.hid hW
  clear hA hW c0 c6 f6 c0a c6a c6b f6b hl hwr
  refine (sync_change (d.fail == 1) hD1 HL1.out H0.out H1.out n1 n2 b1 b2 (if (d.fail == 1) = true then 5 else 0)).mono ?_
  have HR := Lib.hid (endInt_change (f := (fun D : Disk => if (d.fail == 1) = true then D else { D with files := layFile r.name ⟨r.f.b, r.f.b.length⟩ D.files })) (a := if (d.fail == 1) = true then 5 else 0) { d with fail := max 0 (d.fail - 1) })
  obtain ⟨⟨D, R⟩, hD⟩ : ∃ x, x = ({ d with fail := max 0 (d.fail - 1) } : Disk).change (fun D => if (d.fail == 1) = true then D else { D with files := layFile r.name ⟨r.f.b, r.f.b.length⟩ D.files }) (if (d.fail == 1) = true then (5 : Int) else 0) := ⟨_, rfl⟩
  rintro e' w' ⟨he, b1', hto⟩
  rw [← hD] at he hto HS HR
  subst he
  have HD := Lib.hid hD
  clear hD b1 b2 hD1
  cases R with
  | lost op => exact ⟨rfl, by rw [HS.out]; rfl, by rw [HS.out]; exact hto.before (HW.out.atDisk _ _)⟩
  | ok x =>
    cases hF : (d.fail == 1) with
    | true =>
      rw [hF] at b1' HR
      go_wp2_with fail
      go_ret
      exact ⟨by rw [HS.out]; exact HR.out.symm, by rw [HS.out]; exact hto.before (HW.out.atDisk _ _)⟩
    | false =>
      rw [hF] at b1' HR
      go_wp2_with fail
      go_ret
      exact ⟨by rw [HS.out]; exact HR.out.symm, by rw [HS.out]; exact hto.before (HW.out.atDisk _ _)⟩
end
end Go.Proofs.YtgpmnicmgehmbaaGreatDoor


namespace Go.Proofs.YtgpmnicmgehmbaaGreatDoor
open Go.RowKit Lamp

def u32 (x : UInt32) : Value := .int .u32 x.toNat
/-- The table's first rows. -/
def rowsTo (k : Nat) : Array Value := ((List.range 256).map fun j => if j < k then u32 (crcRow j) else .int .u32 0).toArray
theorem rowsTo_zero : rowsTo 0 = Tryz.zeroCells215 := by kernel_rfl
theorem rowsTo_size (k : Nat) : (rowsTo k).size = 256 := by simp [rowsTo]
theorem rowsTo_get (k i : Nat) (h : i < 256) : (rowsTo k)[i]? = some (if i < k then u32 (crcRow i) else .int .u32 0) := by simp [rowsTo, h]
theorem rowsTo_succ (k : Nat) (_h : k < 256) : (rowsTo k).setIfInBounds k (u32 (crcRow k)) = rowsTo (k + 1) := by
  apply Array.ext_getElem?
  intro i
  rw [Array.getElem?_setIfInBounds]
  by_cases hi : i < 256
  · rw [rowsTo_get _ _ hi, rowsTo_get _ _ hi, rowsTo_size]
    by_cases e : k = i
    · subst e; simp [hi]
    · rw [if_neg e]
      by_cases h1 : i < k
      · rw [if_pos h1, if_pos (by omega)]
      · rw [if_neg h1, if_neg (by omega)]
  · rw [if_neg (by omega), Array.getElem?_eq_none (by rw [rowsTo_size]; omega), Array.getElem?_eq_none (by rw [rowsTo_size]; omega)]
def iter (m : Nat) (x : UInt32) : UInt32 := match m with | 0 => x | m + 1 => crcStep (iter m x)

set_option maxRecDepth 100000 in
theorem rows_calls (w : World) : Calls Tryz.prog 159 #[] w fun e w' => e = .returned (.agg (rowsTo 256)) ∧ Below w.heap.size w w' := by
  go_enter Tryz.func159, Tryz.ntmps159
  go_wp2_with fail
  go_loopw [3, 2, 1] (fun i _ _ wr => ∃ k : Nat, k ≤ 256 ∧ i = .int .i64 k ∧ wr.heap[w.heap.size]? = some (.cells (rowsTo k) 215 (0, 0)) ∧ Below w.heap.size w wr)
    (fun i _ _ _ => 256 - (intOf i).toNat)
  case atStart => exact ⟨0, by omega, rfl, by rw [rowsTo_zero]; exact heap_alloc_new _ _, (Below.refl _ _).alloc (Nat.le_refl _) _⟩
  case round =>
    obtain ⟨k, hk, rfl, hb, hbel⟩ := hrel
    by_cases hkl : k < 256
    · have hk1 : (k : Int) < 256 := by omega
      have hk2 : (0 : Int) ≤ (k : Int) := by omega
      go_wp2_with fail
      go_loop [8, 2] (fun i x => ∃ m : Nat, m ≤ 8 ∧ i = .int .i64 m ∧ x = u32 (iter m (UInt32.ofNat k))) (fun i _ => 8 - (intOf i).toNat)
      case atStart => exact ⟨0, by omega, rfl, by simp only [u32, iter, UInt32.toNat_ofNat']; congr 1; omega⟩
      case round =>
        obtain ⟨m, hm, rfl, rfl⟩ := hrel
        by_cases hml : m < 8
        · have hm1 : (m : Int) < 8 := by omega
          have hs := step32 (iter m (UInt32.ofNat k))
          have hx : iter (m + 1) (UInt32.ofNat k) = crcStep (iter m (UInt32.ofNat k)) := rfl
          have HX := Lib.hid hx
          have HS := Lib.hid hs
          clear hx hs
          unfold u32
          go_wp2_with fail
          go_round
          case rel => exact ⟨m + 1, by omega, by go_num, by rw [HX.out]; exact congrArg (Value.int IntKind.u32) HS.out⟩
          case measure => simp [intOf]; omega
        · obtain rfl : m = 8 := by omega
          have hc := cell_blk hb k
          rw [rowsTo_get _ _ hkl] at hc
          have hf := free_blk hb k
          have hcr : u32 (iter 8 (UInt32.ofNat k)) = u32 (crcRow k) := rfl
          rw [hcr]
          have HB := Lib.hid hb
          clear hb
          unfold u32
          go_wp2_with fail
          go_roundw
          case rel =>
            refine ⟨k + 1, by omega, by go_num, ?_, hbel.setCell (Nat.le_refl _) _⟩
            rw [set_blk HB.out k]
            exact congrArg (fun c => some (Obj.cells c 215 (0, 0))) (rowsTo_succ k hkl)
          case measure => simp [intOf]; omega
    · obtain rfl : k = 256 := by omega
      go_wp2_with (first
        | (refine wpList_load_row rfl 215 _ rfl w.heap.size rfl 215 (rowsTo 256) (0, 0) _ hb Tryz.underlying215 rfl (by kernel_rfl) ?_)
        | (refine wpList_store_row rfl 215 _ _ rfl w.heap.size (rowsTo 256) rfl rfl 215 (rowsTo 256) hb (by kernel_rfl) rfl (by kernel_rfl) ?_))
      have hb1 := setRow_heap wr w.heap.size (rowsTo 256) (rowsTo 256) 215 (0, 0) hb
      refine bodyPost_ret (results_cell_row rfl _ _ w.heap.size 215 (rowsTo 256) (0, 0) _ rfl hb1 Tryz.underlying215 rfl (by kernel_rfl)) rfl ⟨rfl, ?_⟩
      exact (((Chg.of_below hbel).setRow (.inr (Nat.le_refl _)) _)).below

theorem iter_eight (k : Nat) : iter 8 (UInt32.ofNat k) = crcRow k := rfl
theorem row_get (i : Nat) (h : i < 256) : (rowsTo 256)[i]? = some (u32 (crcRow i)) := by rw [rowsTo_get _ _ h, if_pos h]

set_option maxHeartbeats 400000 in
set_option maxRecDepth 100000 in
theorem update_calls (w : World) (sum : UInt32) (vb : Value) (b : Bytes) (hbs : Bs w vb b) :
    Calls Tryz.prog 113 #[u32 sum, vb] w fun e w' => e = .returned (u32 (crcUpd sum b)) ∧ Below w.heap.size w w' := by
  obtain ⟨q, cap, rfl, hb1, hb2, hb3, hb4⟩ := hbs
  have hsg : IntKind.u32.signed = false := rfl
  unfold u32
  go_enter Tryz.func113, Tryz.ntmps113
  go_wp2_with (first
    | (go_at_call 159; refine (rows_calls _).mono ?_; rintro e w1 ⟨rfl, hbel1⟩; have hb5 := heap_alloc_new w1 (.cells Tryz.zeroCells215 215))
    | (refine wpList_store_row rfl 215 _ _ rfl w1.heap.size (rowsTo 256) rfl rfl 215 Tryz.zeroCells215 hb5 (by kernel_rfl) (by kernel_rfl) (by kernel_rfl) ?_))
  have hb6 := setRow_heap _ w1.heap.size Tryz.zeroCells215 (rowsTo 256) 215 (0, 0) hb5
  have hc6 : Chg No w ((w1.alloc (.cells Tryz.zeroCells215 215)).setRow w1.heap.size (rowsTo 256)) := ((Chg.of_below hbel1).alloc _).setRow (.inr hbel1.size) _
  have hbb : ∀ k (hk : k < b.length), ∃ bb o, q = some ⟨bb, o, none⟩ ∧ ((w1.alloc (.cells Tryz.zeroCells215 215)).setRow w1.heap.size (rowsTo 256)).cell? ⟨bb, o + k, none⟩ = some (.int .u8 (b[k].toNat)) := by
    intro k hk
    obtain ⟨bb, o, hq, hx⟩ := Bs.at hb4 k hk
    exact ⟨bb, o, hq, hc6.cell hx (fun x => x)⟩
  generalize (w1.alloc (.cells Tryz.zeroCells215 215)).setRow w1.heap.size (rowsTo 256) = W at hb6 hc6 hbb ⊢
  have HN := Lib.hid (not32 sum)
  clear hb5 hb4 hb3
  go_loop [14, 6] (fun i x => ∃ k : Nat, k ≤ b.length ∧ i = .int .i64 k ∧ x = .int .u32 ((b.take k).foldl crcByte (~~~ sum)).toNat) (fun i _ => b.length - (intOf i).toNat)
  case atStart => exact ⟨0, Nat.zero_le _, rfl, by rw [HN.out]; rfl⟩
  case round =>
    obtain ⟨k, hk, rfl, rfl⟩ := hrel
    by_cases hkl : k < b.length
    · obtain ⟨bb, o, rfl, hx⟩ := hbb k hkl
      have hts : (b.take (k + 1)).foldl crcByte (~~~ sum) = crcByte ((b.take k).foldl crcByte (~~~ sum)) b[k] := by
        rw [List.take_succ_eq_append_getElem hkl, List.foldl_append]; rfl
      generalize (b.take k).foldl crcByte (~~~ sum) = x at hts ⊢
      generalize b[k] = c at hts hx ⊢
      have hi : (x.toUInt8 ^^^ c).toNat < 256 := UInt8.toNat_lt _
      have hrow : W.cell? ⟨w1.heap.size, (x.toUInt8 ^^^ c).toNat, none⟩ = some (.int .u32 (crcRow (x.toUInt8 ^^^ c).toNat).toNat) := by
        rw [cell_blk hb6, row_get _ hi]; rfl
      have hby := byte32 x c
      have hxs := xorShift (crcRow (x.toUInt8 ^^^ c).toNat) x
      have hcb : crcByte x c = crcRow (x.toUInt8 ^^^ c).toNat ^^^ (x >>> 8) := rfl
      generalize hR : crcRow (x.toUInt8 ^^^ c).toNat = R at hrow hxs hcb
      generalize hI : x.toUInt8 ^^^ c = I at hrow hi hby
      have HT := Lib.hid hts
      have HXS := Lib.hid hxs
      have HCB := Lib.hid hcb
      clear hts hxs hcb hR hI hbb hc6
      have hi1 : (I.toNat : Int) < 256 := by omega
      go_wp2_with fail
      exact ⟨⟨k + 1, by omega, by go_num, by rw [HT.out, HCB.out]; exact congrArg (Value.int IntKind.u32) HXS.out⟩, by simp [intOf]; omega⟩
    · obtain rfl : k = b.length := by omega
      rw [List.take_length]
      have hfin := not32 (b.foldl crcByte (~~~ sum))
      have hcu : crcUpd sum b = ~~~ (b.foldl crcByte (~~~ sum)) := rfl
      rw [← hcu] at hfin
      have HFIN := Lib.hid hfin
      clear hfin hcu
      go_wp2_with fail
      go_ret
      exact ⟨by rw [HFIN.out]; rfl, hc6.below⟩

theorem sum_calls (w : World) (vb : Value) (b : Bytes) (hbs : Bs w vb b) :
    Calls Tryz.prog 114 #[vb] w fun e w' => e = .returned (u32 (crcUpd 0 b)) ∧ Below w.heap.size w w' := by
  go_enter Tryz.func114, Tryz.ntmps114
  go_wp2_with fail
  refine (update_calls w 0 vb b hbs).mono ?_
  rintro e w' ⟨rfl, hb⟩
  go_wp2_with fail
  go_ret
  exact ⟨rfl, hb⟩
end Go.Proofs.YtgpmnicmgehmbaaGreatDoor


namespace Go.Proofs.YtgpmnicmgehmbaaGreatDoor
open Go.RowKit Lamp
set_option maxRecDepth 100000

theorem shr_u32 (n : UInt32) (k : UInt32) (m : Nat) (hk : k.toNat % 32 = m) : (n.toNat : Int) / (((2 ^ m : Nat) : Int)) = ((n >>> k).toNat : Int) := by
  rw [UInt32.toNat_shiftRight, hk, Nat.shiftRight_eq_div_pow]
  simp

theorem size_ok (n : Int) (w : World) (h1 : 1 ≤ n) (h2 : n ≤ 65536) : Calls Tryz.prog 111 #[.int .i64 n] w fun e w' => e = .returned (.int .i64 (n + 8)) ∧ w = w' := by
  go_enter Tryz.func111, Tryz.ntmps111
  go_wp2_with fail
  go_ret
  exact ⟨rfl, rfl⟩
theorem size_bad (n : Int) (w : World) (h : n < 1 ∨ 65536 < n) : Calls Tryz.prog 111 #[.int .i64 n] w fun e w' => e = .returned (.int .i64 0) ∧ w = w' := by
  by_cases h1 : n < 1
  · go_enter Tryz.func111, Tryz.ntmps111
    go_wp2_with fail
    go_ret
    exact ⟨rfl, rfl⟩
  · have h2 : 65536 < n := by omega
    go_enter Tryz.func111, Tryz.ntmps111
    go_wp2_with fail
    go_ret
    exact ⟨rfl, rfl⟩

theorem four_cells (n : UInt32) : (four n).map u8 = [.int .u8 ((n.toNat : Int) / 16777216 % 256), .int .u8 ((n.toNat : Int) / 65536 % 256), .int .u8 ((n.toNat : Int) / 256 % 256), .int .u8 ((n.toNat : Int) % 256)] := by
  simp [four, u8, UInt32.toNat_shiftRight, Nat.shiftRight_eq_div_pow]

/-- four: a number's bytes behind others. -/
theorem four_calls (w : World) (v : Value) (l : Bytes) (n : UInt32) (hown : Own w 5 v (l.map u8)) (hl : l.length ≤ 1000000) :
    Calls Tryz.prog 112 #[v, u32 n] w fun e w' => ∃ g cap, e = .returned (.slice (some ⟨g, 0, none⟩) (l.length + 4) cap) ∧ Own w' 5 (.slice (some ⟨g, 0, none⟩) (l.length + 4) cap) ((l ++ four n).map u8) ∧
      Chg (fun k => v.ownBlock = some k) w w' ∧ (v.ownBlock = some g ∨ w.heap.size ≤ g) := by
  have hn0 : (0 : Int) ≤ n.toNat := by omega
  have he := congrArg List.toArray (four_cells n)
  have HS := src_lit w (four n) 5
  rw [he, show (four n).length = 4 from rfl] at HS
  have HO := hown.alloc (.cells ((four n).map u8).toArray 5)
  rw [he] at HO
  clear he
  unfold u32
  go_enter Tryz.func112, Tryz.ntmps112
  go_wp2_with (at_builtin; refine wpList_appB rfl _ _ rfl v l rfl HO _ (four n) rfl HS (by simp [four]) (by simp [four]; omega) ?_; intro g cap w1 ho hc hblk hcap)
  go_ret
  refine ⟨g, cap, rfl, ho, ((Chg.refl _ w).alloc _).trans (hc.mono (fun _ _ x => x)), hblk.imp id (fun h => ?_)⟩
  rw [h]; simp

theorem put_bad (w : World) (vb : Value) (b : Bytes) (hbs : Bs w vb b) (hf : fits b = false) :
    Calls Tryz.prog 78 #[vb] w fun e w' => e = .returned (.tuple #[.slice none 0 0, .int .i64 9]) ∧ w = w' := by
  obtain ⟨q, cap, rfl, hb1, hb2, hb3, hb4⟩ := hbs
  have hor : (b.length : Int) < 1 ∨ 65536 < (b.length : Int) := by
    simp only [fits, Bool.and_eq_false_iff, decide_eq_false_iff_not] at hf
    omega
  have hz := size_bad (b.length : Int) w hor
  clear hor hf
  go_enter Tryz.func78, Tryz.ntmps78
  go_wp2_with fail
  refine hz.mono ?_
  rintro e w' ⟨rfl, rfl⟩
  go_wp2_with fail
  go_ret2
  exact ⟨rfl, rfl⟩

theorem put_ok (w : World) (vb : Value) (b : Bytes) (hbs : Bs w vb b) (hf : fits b = true) :
    Calls Tryz.prog 78 #[vb] w fun e w' => ∃ g cap, e = .returned (.tuple #[.slice (some ⟨g, 0, none⟩) (b.length + 8) cap, .int .i64 0]) ∧
      Own w' 5 (.slice (some ⟨g, 0, none⟩) (b.length + 8) cap) ((entryBytes b).map u8) ∧ w.heap.size ≤ g ∧ Below w.heap.size w w' := by
  have hbs0 := hbs
  obtain ⟨q, cap, rfl, hb1, hb2, hb3, hb4⟩ := hbs
  have hl1 : 1 ≤ b.length := by simp only [fits, Bool.and_eq_true, decide_eq_true_eq] at hf; omega
  have hl2 : b.length ≤ 65536 := by simp only [fits, Bool.and_eq_true, decide_eq_true_eq] at hf; omega
  have hz := size_ok (b.length : Int) w (by omega) (by omega)
  have hlen : ((UInt32.ofNat b.length).toNat : Int) = b.length := by simp [UInt32.toNat_ofNat']; omega
  have h4 := fun w => four_calls w (.slice none 0 0) [] (UInt32.ofNat b.length) (Own.nil _ _) (by simp)
  simp only [u32, hlen, List.length_nil, Nat.zero_add, List.nil_append] at h4
  have HE := Lib.hid (show entryBytes b = four (UInt32.ofNat b.length) ++ four (crcUpd (crcUpd 0 (four (UInt32.ofNat b.length))) b) ++ b from rfl)
  generalize hh : four (UInt32.ofNat b.length) = h at h4 HE
  have hh4 : h.length = 4 := by rw [← hh]; rfl
  clear hlen hf hh
  go_enter Tryz.func78, Tryz.ntmps78
  go_wp2_with fail
  refine hz.mono ?_
  rintro e w' ⟨rfl, rfl⟩
  go_wp2_with fail
  refine (h4 _).mono ?_
  rintro e w1 ⟨g1, cap1, rfl, ho1, hc1, hk1⟩
  go_wp2_with fail
  have hB1 := own_bytes ho1 (by omega)
  have hC1 : Chg No w w1 := hc1.mono (fun k _ hk => by simp [Value.ownBlock] at hk)
  have hg1 : w.heap.size ≤ g1 := hk1.elim (fun h => by simp [Value.ownBlock] at h) id
  refine (sum_calls w1 _ h hB1).mono ?_
  rintro e w2 ⟨rfl, hb2'⟩
  unfold u32
  go_wp2_with fail
  have hC2 : Chg No w w2 := hC1.trans (Chg.of_below hb2')
  refine (update_calls w2 (crcUpd 0 h) _ b (hbs0.chg hC2 (fun _ _ x => x))).mono ?_
  rintro e w3 ⟨rfl, hb3'⟩
  unfold u32
  go_wp2_with fail
  have hC3 : Chg No w w3 := hC2.trans (Chg.of_below hb3')
  have ho3 : Own w3 5 (.slice (some ⟨g1, 0, none⟩) 4 cap1) (h.map u8) := ho1.kept ((Chg.of_below hb2').trans (Chg.of_below hb3')) (fun _ _ x => x)
  refine (four_calls w3 _ h (crcUpd (crcUpd 0 h) b) ho3 (by omega)).mono ?_
  rintro e w4 ⟨g2, cap2, rfl, ho4, hc4, hk4⟩
  have hg2 : w.heap.size ≤ g2 := by
    rcases hk4 with hk | hk
    · simp [Value.ownBlock] at hk; omega
    · have := hC3.size; omega
  have hC4 : Chg No w w4 := hC3.then hc4 (fun i hi => by simp [Value.ownBlock] at hi; exact .inr (by omega))
  have hS4 := (hbs0.chg hC4 (fun _ _ x => x)).src
  rw [hh4] at ho4 ⊢
  have hl4 : (h ++ four (crcUpd (crcUpd 0 h) b)).length = 8 := by simp [hh4, four]
  generalize h ++ four (crcUpd (crcUpd 0 h) b) = hd at ho4 HE hl4
  have HH := Lib.hid hh4
  clear hh4 h4 ho3 hB1
  go_wp2_with (at_builtin; refine wpList_appB rfl _ _ rfl (.slice (some ⟨g2, 0, none⟩) 8 cap2) hd rfl ho4 _ b rfl hS4 ?n ?m ?_; (case n => (intro h0; simp [h0] at hl1)); (case m => omega); intro g5 cap5 w5 ho5 hc5 hk5 hcap5)
  go_ret2
  refine ⟨g5, cap5, by rw [Nat.add_comm b.length 8]; rfl, ?_, ?_, (hC4.then hc5 (fun i hi => by simp [Value.ownBlock] at hi; exact .inr (by omega))).below⟩
  · rw [HE.out]
    rw [hl4, Nat.add_comm] at ho5
    exact ho5
  · rcases hk5 with hk | hk
    · simp [Value.ownBlock] at hk; omega
    · have := hC4.size; omega
end Go.Proofs.YtgpmnicmgehmbaaGreatDoor


namespace Lamp

def total : List (Bytes × File) → Nat
  | [] => 0
  | x :: l => x.2.b.length + total l
theorem fileOf_le {n : Bytes} {f : File} : ∀ {l : List (Bytes × File)}, fileOf n l = some f → f.b.length ≤ total l
  | [], h => by simp [fileOf] at h
  | (k, g) :: l, h => by
    simp only [fileOf] at h
    by_cases e : k = n
    · rw [if_pos e] at h
      simp at h
      simp [total, h]
    · rw [if_neg e] at h
      have := fileOf_le h
      simp only [total]; omega
theorem total_lay {n : Bytes} (g : File) : ∀ l : List (Bytes × File), total (layFile n g l) + ((fileOf n l).getD ⟨[], 0⟩).b.length = total l + g.b.length
  | [] => by simp [layFile, total, fileOf]
  | (k, h) :: l => by
    by_cases e : k = n
    · simp [layFile, fileOf, e, total]; omega
    · have := total_lay (n := n) g l
      simp only [layFile, fileOf, e, if_false, total]; omega
theorem fileOf_lay {n : Bytes} (g : File) : ∀ l : List (Bytes × File), fileOf n (layFile n g l) = some g
  | [] => by simp [layFile, fileOf]
  | (k, h) :: l => by
    by_cases e : k = n
    · simp [layFile, fileOf, e]
    · simp [layFile, fileOf, e, fileOf_lay g l]

/-- What is asked of a disk's counts. -/
structure Disk.Sound (d : Disk) (N : Int) : Prop where
  o0 : 0 ≤ d.ops
  o1 : d.ops ≤ N
  u : d.used = total d.files
  u1 : d.used ≤ 1073741824
  r0 : 0 ≤ d.room
  r1 : d.room ≤ 1073741824
  f0 : 0 ≤ d.fail
  f1 : d.fail ≤ 9223372036854775807
theorem Disk.Sound.u0 {d : Disk} {N : Int} (h : d.Sound N) : 0 ≤ d.used := by rw [h.u]; omega
theorem Disk.Sound.len {d : Disk} {N : Int} (h : d.Sound N) {n : Bytes} {f : File} (hf : fileOf n d.files = some f) : (f.b.length : Int) ≤ d.used := by
  rw [h.u]; have := fileOf_le hf; omega
theorem Disk.Sound.mono {d : Disk} {N M : Int} (h : d.Sound N) (hm : N ≤ M) : d.Sound M := ⟨h.o0, Int.le_trans h.o1 hm, h.u, h.u1, h.r0, h.r1, h.f0, h.f1⟩

/-- How many bytes an Append lays. -/
def Disk.fit (d : Disk) (b : Bytes) : Int :=
  let n := max 0 (min (b.length : Int) (d.room - d.used))
  if d.begin.gone then max 0 (min n d.keep) else n
theorem Disk.append_eq (d : Disk) (name b : Bytes) (hn : named name = true) : d.append name b =
    let d' : Disk := { d.begin with files := layFile name ⟨((fileOf name d.files).getD ⟨[], 0⟩).b ++ b.take (d.fit b).toNat, ((fileOf name d.files).getD ⟨[], 0⟩).safe⟩ d.files, used := d.used + d.fit b }
    if d.begin.gone then (d'.crash, .lost (d.ops + 1)) else (d', .ok (d.fit b, if d.fit b < b.length then 4 else 0)) := by
  unfold Disk.append
  rw [if_neg (by simp [hn])]
  rfl
theorem Disk.fit_bounds (d : Disk) (b : Bytes) : 0 ≤ d.fit b ∧ d.fit b ≤ b.length ∧ (d.fit b ≤ 0 ∨ d.used + d.fit b ≤ d.room) := by
  unfold Disk.fit
  simp only []
  split <;> omega
theorem Disk.Sound.append {d : Disk} {N : Int} (h : d.Sound N) (name b : Bytes) (hn : named name = true) : (d.append name b).1.Sound (N + 1) ∧ ∃ f, fileOf name (d.append name b).1.files = some f ∧ ((fileOf name d.files).getD ⟨[], 0⟩).b.length ≤ f.b.length := by
  obtain ⟨h0, h1, h2⟩ := d.fit_bounds b
  have ht := total_lay (n := name) ⟨((fileOf name d.files).getD ⟨[], 0⟩).b ++ b.take (d.fit b).toNat, ((fileOf name d.files).getD ⟨[], 0⟩).safe⟩ d.files
  simp only [List.length_append, List.length_take] at ht
  have hu := h.u
  have hu1 := h.u1
  have hr := h.r1
  have ho := h.o0
  have ho1 := h.o1
  rw [Disk.append_eq _ _ _ hn]
  have hS : ({ d.begin with files := layFile name ⟨((fileOf name d.files).getD ⟨[], 0⟩).b ++ b.take (d.fit b).toNat, ((fileOf name d.files).getD ⟨[], 0⟩).safe⟩ d.files, used := d.used + d.fit b } : Disk).Sound (N + 1) :=
    ⟨by show 0 ≤ d.ops + 1; omega, by show d.ops + 1 ≤ _; omega, by show d.used + d.fit b = _; simp only []; omega, by show d.used + d.fit b ≤ _; omega, h.r0, h.r1, h.f0, h.f1⟩
  simp only []
  split
  · exact ⟨⟨hS.o0, hS.o1, hS.u, hS.u1, hS.r0, hS.r1, hS.f0, hS.f1⟩, _, fileOf_lay _ _, by simp⟩
  · exact ⟨hS, _, fileOf_lay _ _, by simp⟩
/-- A change leaves the disk sound if its doing does. -/
theorem Disk.Sound.change {d : Disk} {N : Int} (h : d.Sound N) {α : Type} {f : Disk → Disk} (a : α) (hf : (f d.begin).Sound (N + 1)) : (d.change f a).1.Sound (N + 1) := by
  have hb : d.begin.Sound (N + 1) := ⟨by show 0 ≤ d.ops + 1; have := h.o0; omega, by show d.ops + 1 ≤ _; have := h.o1; omega, h.u, h.u1, h.r0, h.r1, h.f0, h.f1⟩
  have hc : ∀ x : Disk, x.Sound (N + 1) → x.crash.Sound (N + 1) := fun x h => ⟨h.o0, h.o1, h.u, h.u1, h.r0, h.r1, h.f0, h.f1⟩
  unfold Disk.change
  simp only []
  split
  · split
    · exact hc _ hf
    · exact hc _ hb
  · split
    · exact hf
    · exact hb
theorem Disk.Sound.truncate {d : Disk} {N : Int} (h : d.Sound N) (name : Bytes) (n : Int) : (d.truncate name n).1.Sound (N + 1) := by
  unfold Disk.truncate
  split
  · exact h.mono (by omega)
  · rename_i f hf
    split
    · exact h.mono (by omega)
    · rename_i hn
      refine h.change _ ?_
      have ht := total_lay (n := name) ⟨f.b.take n.toNat, min f.safe n⟩ d.files
      rw [hf] at ht
      simp only [Option.getD_some, List.length_take] at ht
      have hu := h.u
      have hu1 := h.u1
      have ho := h.o0
      have ho1 := h.o1
      exact ⟨by show 0 ≤ d.ops + 1; omega, by show d.ops + 1 ≤ _; omega, by show d.used - _ = ((total (layFile name ⟨f.b.take n.toNat, min f.safe n⟩ d.files) : Nat) : Int); omega, by show d.used - _ ≤ _; omega, h.r0, h.r1, h.f0, h.f1⟩
theorem Disk.Sound.sync {d : Disk} {N : Int} (h : d.Sound N) (name : Bytes) : (d.sync name).1.Sound (N + 1) := by
  unfold Disk.sync
  split
  · exact h.mono (by omega)
  · rename_i f hf
    have h' : ({ d with fail := max 0 (d.fail - 1) } : Disk).Sound N := ⟨h.o0, h.o1, h.u, h.u1, h.r0, h.r1, by show 0 ≤ max 0 (d.fail - 1); omega, by show max 0 (d.fail - 1) ≤ _; have := h.f1; omega⟩
    refine h'.change _ ?_
    have ho := h.o0
    have ho1 := h.o1
    have ht := total_lay (n := name) ⟨f.b, (f.b.length : Int)⟩ d.files
    rw [hf] at ht
    simp only [Option.getD_some] at ht
    have hu := h.u
    have hb : ({ d with fail := max 0 (d.fail - 1) } : Disk).begin.Sound (N + 1) := ⟨by show 0 ≤ d.ops + 1; omega, by show d.ops + 1 ≤ _; omega, h.u, h.u1, h.r0, h.r1, h'.f0, h'.f1⟩
    split
    · exact hb
    · exact ⟨hb.o0, hb.o1, by show d.used = ((total (layFile name ⟨f.b, (f.b.length : Int)⟩ d.files) : Nat) : Int); omega, h.u1, h.r0, h.r1, h'.f0, h'.f1⟩
/-- The file stays there. -/
theorem Disk.sync_file {d : Disk} (name : Bytes) {f : File} (h : fileOf name d.files = some f) : ∃ s, fileOf name (d.sync name).1.files = some ⟨f.b, s⟩ := by
  unfold Disk.sync Disk.change
  rw [h]
  simp only []
  have h1 : fileOf name ({ d with fail := max 0 (d.fail - 1) } : Disk).begin.files = some ⟨f.b, f.safe⟩ := h
  have h2 : fileOf name (layFile name ⟨f.b, (f.b.length : Int)⟩ d.files) = some ⟨f.b, (f.b.length : Int)⟩ := fileOf_lay _ _
  repeat' split
  all_goals first | exact ⟨_, h1⟩ | exact ⟨_, h2⟩ | exact ⟨_, h⟩
end Lamp


namespace Go.Proofs.YtgpmnicmgehmbaaGreatDoor
open Go.RowKit Lamp
set_option maxRecDepth 100000
set_option maxHeartbeats 400000

def logObj (pd : Nat) (g : Log) (vl : Value) : Obj := .cells #[.pointer (some ⟨pd, 0, none⟩), .string (ofL g.name), vl, .int .i64 g.good] 96 (0, 0)
def rowBlocks (rows : List (Value × Bytes)) : List Nat := rows.flatMap fun r => r.1.ownBlock.toList
theorem mem_rowBlocks {k : Nat} {rows : List (Value × Bytes)} : k ∈ rowBlocks rows ↔ ∃ r ∈ rows, r.1.ownBlock = some k := by simp [rowBlocks]
def logBlocks (pl pd m : Nat) (fs : List FR) (vl : Value) : List Nat := pl :: vl.ownBlock.toList ++ diskBlocks pd m fs
theorem mem_logBlocks {pl pd m k : Nat} {fs : List FR} {vl : Value} : k ∈ logBlocks pl pd m fs vl ↔ k = pl ∨ vl.ownBlock = some k ∨ k ∈ diskBlocks pd m fs := by simp [logBlocks]

/-- A log in memory, all told. -/
structure LogIn (w : World) (pl pd m : Nat) (d : Disk) (g : Log) (fs : List FR) (vl : Value) (rows : List (Value × Bytes)) : Prop where
  blk : w.heap[pl]? = some (logObj pd g vl)
  disk : DiskAt w pd m d fs
  own : Own w 22 vl (rows.map (·.1))
  told : g.l = rows.map (·.2)
  each : ∀ r ∈ rows, Bs w r.1 r.2 ∧ ∀ k, r.1.ownBlock = some k → k < w.heap.size ∧ k ∉ logBlocks pl pd m fs vl
  plo : pl ∉ diskBlocks pd m fs
  vd : ∀ k, vl.ownBlock = some k → k ≠ pl ∧ k ∉ diskBlocks pd m fs

/-- A log, and the blocks that it stands in. -/
def LogAt (w : World) (pl pd : Nat) (d : Disk) (g : Log) (F : List Nat) : Prop :=
  ∃ m fs vl rows, LogIn w pl pd m d g fs vl rows ∧ F = logBlocks pl pd m fs vl ++ rowBlocks rows

section
variable {w : World} {pl pd m : Nat} {d : Disk} {g : Log} {fs : List FR} {vl : Value} {rows : List (Value × Bytes)} {F : List Nat}

theorem LogIn.lt (h : LogIn w pl pd m d g fs vl rows) : ∀ k ∈ logBlocks pl pd m fs vl ++ rowBlocks rows, k < w.heap.size := by
  intro k hk
  rcases List.mem_append.1 hk with hk | hk
  · rcases mem_logBlocks.1 hk with rfl | hk | hk
    · exact lt_of_heap h.blk
    · exact h.own.lt hk
    · exact h.disk.lt k hk
  · obtain ⟨r, hr, hk⟩ := mem_rowBlocks.1 hk
    exact ((h.each r hr).2 k hk).1
theorem LogIn.kept {S : Nat → Prop} {W : World} (h : LogIn w pl pd m d g fs vl rows) (hc : Chg S w W) (hS : ∀ k ∈ logBlocks pl pd m fs vl ++ rowBlocks rows, ¬ S k) : LogIn W pl pd m d g fs vl rows := by
  have hl : ∀ k ∈ logBlocks pl pd m fs vl, ¬ S k := fun k hk => hS k (List.mem_append.2 (.inl hk))
  refine ⟨hc.heap h.blk (hl _ (mem_logBlocks.2 (.inl rfl))), h.disk.kept hc (fun k hk => hl k (mem_logBlocks.2 (.inr (.inr hk)))), h.own.kept hc (fun k hk => hl k (mem_logBlocks.2 (.inr (.inl hk)))), h.told, fun r hr => ?_, h.plo, h.vd⟩
  refine ⟨(h.each r hr).1.chg hc (fun k hk => hS k (List.mem_append.2 (.inr (mem_rowBlocks.2 ⟨r, hr, hk⟩)))), fun k hk => ?_⟩
  obtain ⟨h1, h2⟩ := (h.each r hr).2 k hk
  exact ⟨Nat.lt_of_lt_of_le h1 hc.size, h2⟩
theorem LogAt.lt (h : LogAt w pl pd d g F) : ∀ k ∈ F, k < w.heap.size := by
  obtain ⟨m, fs, vl, rows, h, rfl⟩ := h
  exact h.lt
theorem LogAt.kept {S : Nat → Prop} {W : World} (h : LogAt w pl pd d g F) (hc : Chg S w W) (hS : ∀ k ∈ F, ¬ S k) : LogAt W pl pd d g F := by
  obtain ⟨m, fs, vl, rows, h, rfl⟩ := h
  exact ⟨m, fs, vl, rows, h.kept hc hS, rfl⟩

/-- The log's blocks were written to, and some that are new. -/
def LogTo (w w' : World) (pl pd : Nat) (F : List Nat) (d' : Disk) (g' : Log) : Prop :=
  ∃ F', LogAt w' pl pd d' g' F' ∧ Chg (In F) w w' ∧ ∀ k ∈ F', k ∈ F ∨ w.heap.size ≤ k
theorem LogTo.before {w0 w' : World} {d' : Disk} {g' : Log} (h : LogTo w w' pl pd F d' g') (hc : Chg (In F) w0 w) : LogTo w0 w' pl pd F d' g' := by
  obtain ⟨F', h1, h2, h3⟩ := h
  exact ⟨F', h1, hc.trans h2, fun k hk => (h3 k hk).imp id (fun x => Nat.le_trans hc.size x)⟩
theorem LogTo.then {w' w'' : World} {d' d'' : Disk} {g' g'' : Log} (h : LogTo w w' pl pd F d' g') (h2 : ∀ F', LogAt w' pl pd d' g' F' → LogTo w' w'' pl pd F' d'' g'') : LogTo w w'' pl pd F d'' g'' := by
  obtain ⟨F', h3, h4, h5⟩ := h
  obtain ⟨F2, h6, h7, h8⟩ := h2 F' h3
  refine ⟨F2, h6, h4.then h7 h5, fun k hk => ?_⟩
  rcases h8 k hk with e | e
  · exact h5 k e
  · exact .inr (Nat.le_trans h4.size e)
theorem LogTo.same (h : LogAt w pl pd d g F) : LogTo w w pl pd F d g := ⟨F, h, Chg.refl _ _, fun _ x => .inl x⟩

/-- The disk beneath is turned. -/
theorem LogIn.beneath {W : World} {D : Disk} (h : LogIn w pl pd m d g fs vl rows) (ht : DiskTo w W pd m fs D) : LogTo w W pl pd (logBlocks pl pd m fs vl ++ rowBlocks rows) D g ∧
    ∃ fs', LogIn W pl pd m D g fs' vl rows ∧ ∀ k ∈ logBlocks pl pd m fs' vl ++ rowBlocks rows, k ∈ logBlocks pl pd m fs vl ++ rowBlocks rows ∨ w.heap.size ≤ k := by
  obtain ⟨fs', h1, h2, h3⟩ := ht
  have hlt := h.lt
  have hsub : ∀ k ∈ logBlocks pl pd m fs' vl ++ rowBlocks rows, k ∈ logBlocks pl pd m fs vl ++ rowBlocks rows ∨ w.heap.size ≤ k := by
    intro k hk
    rcases List.mem_append.1 hk with hk | hk
    · rcases mem_logBlocks.1 hk with e | e | e
      · exact .inl (List.mem_append.2 (.inl (mem_logBlocks.2 (.inl e))))
      · exact .inl (List.mem_append.2 (.inl (mem_logBlocks.2 (.inr (.inl e)))))
      · exact (h3 k e).imp (fun e => List.mem_append.2 (.inl (mem_logBlocks.2 (.inr (.inr e))))) id
    · exact .inl (List.mem_append.2 (.inr hk))
  have hL : LogIn W pl pd m D g fs' vl rows := by
    have hpl := lt_of_heap h.blk
    refine ⟨h2.heap h.blk h.plo, h1, h.own.kept h2 (fun k hk => (h.vd k hk).2), h.told, fun r hr => ?_, fun hk => ?_, fun k hk => ⟨(h.vd k hk).1, fun hk' => ?_⟩⟩
    · refine ⟨(h.each r hr).1.chg h2 (fun k hk hk' => ((h.each r hr).2 k hk).2 (mem_logBlocks.2 (.inr (.inr hk')))), fun k hk => ?_⟩
      obtain ⟨h5, h6⟩ := (h.each r hr).2 k hk
      refine ⟨Nat.lt_of_lt_of_le h5 h2.size, fun hk' => ?_⟩
      rcases mem_logBlocks.1 hk' with e | e | e
      · exact h6 (mem_logBlocks.2 (.inl e))
      · exact h6 (mem_logBlocks.2 (.inr (.inl e)))
      · rcases h3 k e with e | e
        · exact h6 (mem_logBlocks.2 (.inr (.inr e)))
        · omega
    · rcases h3 pl hk with e | e
      · exact h.plo e
      · omega
    · rcases h3 k hk' with e | e
      · exact (h.vd k hk).2 e
      · have := h.own.lt hk; omega
  refine ⟨⟨_, ⟨m, fs', vl, rows, hL, rfl⟩, h2.mono (fun k _ hk => List.mem_append.2 (.inl (mem_logBlocks.2 (.inr (.inr hk))))), hsub⟩, fs', hL, hsub⟩

theorem cutLog_calls {f : File} (h : LogIn w pl pd m d g fs vl rows) (hlk : fileOf g.name d.files = some f) (hs : d.Sound 4611686018427386999) :
    Calls Tryz.prog 55 #[.pointer (some ⟨pl, 0, none⟩)] w fun e w' => e = (match (d.truncate g.name g.good).2 with | .ok _ => .returned (.tuple #[]) | .lost op => crashed op) ∧ DiskTo w w' pd m fs (d.truncate g.name g.good).1 := by
  have c0 := cell_blk h.blk 0
  have c1 := cell_blk h.blk 1
  have c3 := cell_blk h.blk 3
  simp only [List.getElem?_toArray, List.getElem?_cons_succ, List.getElem?_cons_zero] at c0 c1 c3
  have hle := hs.len hlk
  have HT := Lib.hid (fun w (h : DiskAt w pd m d fs) => truncate_some g.good h g.name hlk hs.o0 (by have := hs.o1; omega) hs.u0 hs.u1 (by have := hs.u1; omega))
  have HD := Lib.hid h.disk
  have hd1 : Hid (DiskAt w.drew pd m d fs) := h.disk.old ((Chg.refl No w).drew)
  clear hs hlk hle h
  generalize d.truncate g.name g.good = x at HT ⊢
  obtain ⟨D, R⟩ := x
  go_enter Tryz.func55, Tryz.ntmps55
  go_wp2_with fail
  go_still_tail 12, (by kernel_rfl)
  change wpList _ _ _ _ _ w.drew
  go_wp2_with fail
  refine (HT.out _ hd1.out).mono ?_
  rintro e w' ⟨rfl, ht⟩
  cases R with
  | lost op => exact ⟨rfl, rfl, ht.before ((Chg.refl _ w).drew)⟩
  | ok x =>
    go_wp2_with fail
    go_end0
    exact ⟨rfl, ht.before ((Chg.refl _ w).drew)⟩

/-- A record more. -/
theorem LogIn.grown (h : LogIn w pl pd m d g fs vl rows) {wA wC wE : World} {row vl' : Value} {b : Bytes} {n : Int} (hcA : Chg No w wA) (hrow : Own wA 5 row (b.map u8)) (hrb : ∀ k, row.ownBlock = some k → w.heap.size ≤ k)
    (hbl : b.length ≤ 140737488355328) (hcC : Chg (fun k => vl.ownBlock = some k) wA wC) (hown : Own wC 22 vl' (rows.map (·.1) ++ [row])) (hvl' : ∀ k, vl'.ownBlock = some k → vl.ownBlock = some k ∨ wA.heap.size ≤ k)
    (hcE : Chg (In [pl]) wC wE) (hE : wE.heap[pl]? = some (logObj pd { g with l := g.l ++ [b], good := n } vl')) :
    LogTo w wE pl pd (logBlocks pl pd m fs vl ++ rowBlocks rows) d { g with l := g.l ++ [b], good := n } := by
  have hlt := h.lt
  have hpl := lt_of_heap h.blk
  have hin : ∀ k ∈ logBlocks pl pd m fs vl, k ∈ logBlocks pl pd m fs vl ++ rowBlocks rows := fun k hk => List.mem_append.2 (.inl hk)
  have hvpl : vl'.ownBlock ≠ some pl := fun e => by
    rcases hvl' _ e with e | e
    · exact (h.vd _ e).1 rfl
    · have := hcA.size; omega
  have hcAC : Chg (fun k => vl.ownBlock = some k) w wC := (hcA.mono (fun _ _ x => x.elim)).trans hcC
  have hc : Chg (fun k => vl.ownBlock = some k ∨ k = pl) w wE := (hcAC.mono (fun _ _ x => .inl x)).trans (hcE.mono (fun _ _ x => .inr (by simpa using x)))
  have hlb : ∀ k ∈ logBlocks pl pd m fs vl', k ∈ logBlocks pl pd m fs vl ∨ wA.heap.size ≤ k := by
    intro k hk
    rcases mem_logBlocks.1 hk with e | e | e
    · exact .inl (mem_logBlocks.2 (.inl e))
    · exact (hvl' k e).imp (fun e => mem_logBlocks.2 (.inr (.inl e))) id
    · exact .inl (mem_logBlocks.2 (.inr (.inr e)))
  refine ⟨_, ⟨m, fs, vl', rows ++ [(row, b)], ⟨hE, ?_, ?_, by simp [h.told], ?_, h.plo, fun k hk => ?_⟩, rfl⟩, hc.mono (fun k _ hk => hin k (hk.elim (fun e => mem_logBlocks.2 (.inr (.inl e))) (fun e => mem_logBlocks.2 (.inl e)))), ?_⟩
  · exact h.disk.kept hc (fun k hk e => e.elim (fun e => (h.vd k e).2 hk) (fun e => h.plo (e ▸ hk)))
  · rw [List.map_append]
    exact hown.kept hcE (fun k hk => by simp; rintro rfl; exact hvpl hk)
  · intro r hr
    rcases List.mem_append.1 hr with hr | hr
    · refine ⟨(h.each r hr).1.chg hc (fun k hk e => ((h.each r hr).2 k hk).2 (e.elim (fun e => mem_logBlocks.2 (.inr (.inl e))) (fun e => mem_logBlocks.2 (.inl e)))), fun k hk => ?_⟩
      obtain ⟨h1, h2⟩ := (h.each r hr).2 k hk
      refine ⟨Nat.lt_of_lt_of_le h1 hc.size, fun hk' => ?_⟩
      rcases hlb k hk' with e | e
      · exact h2 e
      · have := hcA.size; omega
    · have hr : r = (row, b) := by simpa using hr
      subst hr
      have hlr : ∀ k, row.ownBlock = some k → k < wA.heap.size := fun k hk => hrow.lt hk
      refine ⟨((own_bytes hrow hbl).chg hcC (fun k hk e => ?_)).chg hcE (fun k hk e => ?_), fun k hk => ?_⟩
      · have h1 := hrb k hk
        have h2 := h.own.lt e
        omega
      · have h1 := hrb k hk
        simp at e
        omega
      · refine ⟨Nat.lt_of_lt_of_le (hlr k hk) (Nat.le_trans hcC.size hcE.size), fun hk' => ?_⟩
        have h1 := hrb k hk
        have h2 := hlr k hk
        rcases hlb k hk' with e | e
        · have := hlt k (hin k e); omega
        · omega
  · rcases hvl' k hk with e | e
    · exact h.vd k e
    · have h1 := hcA.size
      refine ⟨by omega, fun hk' => ?_⟩
      have := h.disk.lt k hk'
      omega
  · intro k hk
    rcases List.mem_append.1 hk with hk | hk
    · rcases hlb k hk with e | e
      · exact .inl (hin k e)
      · exact .inr (Nat.le_trans hcA.size e)
    · obtain ⟨r, hr, hk⟩ := mem_rowBlocks.1 hk
      rcases List.mem_append.1 hr with hr | hr
      · exact .inl (List.mem_append.2 (.inr (mem_rowBlocks.2 ⟨r, hr, hk⟩)))
      · have hr : r = (row, b) := by simpa using hr
        subst hr
        exact .inr (hrb k hk)

theorem LogIn.under {W : World} {D : Disk} (h : LogIn w pl pd m d g fs vl rows) (ht : DiskTo w W pd m fs D) :
    ∃ fs', LogIn W pl pd m D g fs' vl rows ∧ Chg (In (logBlocks pl pd m fs vl ++ rowBlocks rows)) w W ∧ ∀ k ∈ logBlocks pl pd m fs' vl ++ rowBlocks rows, k ∈ logBlocks pl pd m fs vl ++ rowBlocks rows ∨ w.heap.size ≤ k := by
  obtain ⟨⟨_, _, hc, _⟩, fs', h1, h2⟩ := h.beneath ht
  exact ⟨fs', h1, hc, h2⟩
theorem LogTo.after {F F2 : List Nat} {w2 w3 : World} (hc : Chg (In F) w w2) (hsub : ∀ k ∈ F2, k ∈ F ∨ w.heap.size ≤ k) (h : LogTo w2 w3 pl pd F2 d g) : LogTo w w3 pl pd F d g := by
  obtain ⟨F', h1, h2, h3⟩ := h
  refine ⟨F', h1, hc.then h2 hsub, fun k hk => ?_⟩
  rcases h3 k hk with e | e
  · exact hsub k e
  · exact .inr (Nat.le_trans hc.size e)
end
end Go.Proofs.YtgpmnicmgehmbaaGreatDoor
