/- msh.Read.
   msh.Write.
   ack.Build. -/
import Derived.Test.YtgpmnicmgehmbaaGreatDoorB07
import Derived.Deep.MidRow
import Derived.IntWalk

namespace Go.Proofs.YtgpmnicmgehmbaaGreatDoor
open Go.RowKit Lamp
set_option maxRecDepth 100000
set_option maxHeartbeats 400000

def hvH (h : Head) : Value := hv h.d h.at
/-- How the reading of a head ends. -/
def endHead : Except Int Head → Ending
  | .ok h => .returned (.tuple #[hvH h, .int .i64 0])
  | .error e => .returned (.tuple #[hvH Head.none, .int .i64 e])
/-- The cells of no head. -/
abbrev noCells : Array Value := #[.int .u8 0, .int .u8 0, .int .u8 0, .int .u8 0, .int .u8 0, .string ⟨#[]⟩, .string ⟨#[]⟩, .string ⟨#[]⟩, .string ⟨#[]⟩, .string ⟨#[]⟩, .string ⟨#[]⟩, .string ⟨#[]⟩, .string ⟨#[]⟩, .string ⟨#[]⟩, .string ⟨#[]⟩]
theorem hvH_none : hvH Head.none = .agg noCells := rfl

theorem delimRead_err {b : Bytes} {e : Int} (h : delimRead b = .error e) : e = 11 ∨ e = 7 := by
  unfold delimRead at h
  split at h
  · split at h
    · simp only [] at h
      split at h
      · cases h
      · injection h with h; exact .inl h.symm
    · injection h with h; exact .inl h.symm
  · injection h with h; exact .inr h.symm

/-- A store of a whole head (or of whatever fills a block). -/
theorem wpList_store_row {P : Program} {w : World} {ops : Array Oper} {rest : List Oper} {o : Oper} {a : Act} {Q : Exit → Act → World → Prop} (hgd : o.guard = none) (ty : TypeId) (x y : Operand) (ho : o.op = .store ty x y)
    (g : Nat) (cells : Array Value) (hx : a.eval x = .pointer (some ⟨g, 0, none⟩)) (hy : a.eval y = .agg cells)
    (t : TypeId) (old : Array Value) (hg : w.heap[g]? = some (.cells old t (0, 0))) (hi : (P.info? ty).map (·.size) = some cells.size)
    (hold : old.size = cells.size) (h1 : cells.all (·.oneCell') = true)
    (h : (w.setRow g cells).heap[g]? = some (.cells cells t (0, 0)) → Chg (fun k => k = g) w (w.setRow g cells) → wpList P ops Q rest (a.put o.dst undef) (w.setRow g cells)) : wpList P ops Q (o :: rest) a w :=
  wpList_plain hgd fun _ hK => wp_store_row ty x y ho g cells hx hy t old hg hi hold h1 (hK _ _ (h (setRow_heap w g old cells t (0, 0) hg) ((Chg.refl (fun k => k = g) w).setRow (.inl rfl) _)))

theorem one_none : noCells.all (·.oneCell') = true := all_oneCell_toArray (by intro v hv; simp at hv; rcases hv with rfl | rfl <;> rfl)
theorem one_head (d : Delims) (f : Nat → Bytes) : (headCells d f).all (·.oneCell') = true := all_oneCell_toArray (by intro v hv; simp at hv; rcases hv with rfl | rfl | rfl | rfl | rfl | rfl | rfl | rfl | rfl | rfl | rfl | rfl | rfl | rfl | rfl <;> rfl)

theorem mread_error {w : World} {v : Value} (b : Bytes) (hb : Bs w v b) (e : Int) (he : delimRead b = .error e) :
    Calls Tryz.prog 61 #[v] w fun e' w' => e' = endHead (.error e) ∧ Chg No w w' := by
  have HD := Lib.hid (fun w1 h => dread_calls w1 v b h)
  have hne : (e != 0) = true := by rcases delimRead_err he with rfl | rfl <;> rfl
  rw [he] at HD
  unfold endDelims dv0 at HD
  simp only at HD
  unfold endHead
  rw [hvH_none]
  have HB := Lib.hid (hb.chg ((Chg.refl No w).alloc (.cells noCells 112)) (fun _ _ x => x))
  obtain ⟨q, cap, rfl, _, _, _, _⟩ := hb
  clear he
  go_enter Tryz.func61, Tryz.ntmps61
  go_wp2_with fail
  refine (HD.out _ HB.out).mono ?_
  rintro e1 w1 ⟨rfl, hc⟩
  have hb1 := hc.heap (heap_alloc_new _ _) (fun x => x)
  have hp1 := (Array.getElem?_eq_some_iff.1 hb1).1
  have HC := Lib.hid (((Chg.refl No w).alloc _).trans hc)
  have HB1 := Lib.hid hb1
  clear hc
  go_wp2_with (refine wpList_store_row rfl 112 _ _ rfl w.heap.size noCells rfl rfl 112 _ (heap_old_al HB1.out _) (by kernel_rfl) rfl one_none ?_; intro hb2 hc2; have HB2 := Lib.hid hb2; have HC2 := Lib.hid hc2; clear hb2 hc2)
  refine bodyPost_ret (results_cell_tmp_row rfl _ _ w.heap.size 112 noCells (0, 0) _ rfl HB2.out Tryz.underlying112 rfl (by kernel_rfl)) rfl ⟨rfl, ?_⟩
  exact (HC.out.alloc _).then HC2.out (by rintro i rfl; right; exact Nat.le_refl _)

/-- The texts of a head that is read, up to a place. -/
def partTexts (s : Bytes) (d : Delims) (k i : Nat) : Bytes := if i < k then field s (3 + (i : Int)) d else []
theorem readHead_ok {b : Bytes} {d : Delims} (h : delimRead b = .ok d) : (field ((split b).headD []) 2 d = d.others → readHead b = .ok (headOf d (partTexts ((split b).headD []) d 10))) ∧ (¬ field ((split b).headD []) 2 d = d.others → readHead b = .error 11) := by
  unfold readHead
  rw [h]
  constructor
  · intro h1
    simp only [ne_eq, h1, not_true_eq_false, ↓reduceIte]
    rfl
  · intro h1
    simp only [ne_eq, h1, not_false_eq_true, ↓reduceIte]
theorem pieces_one (sep : UInt8) : ∀ (l x : Bytes), pieces sep l = [x] → x = l
  | [], x, h => by simp [pieces] at h; exact h
  | c :: l, x, h => by
    by_cases hc : c = sep
    · simp only [pieces, if_pos hc] at h
      injection h with _ h
      exact absurd h (pieces_ne sep l)
    · simp only [pieces, if_neg hc] at h
      split at h
      · rename_i h0
        exact absurd h0 (pieces_ne sep l)
      · rename_i p ps hp
        injection h with h1 h2
        subst h2
        rw [← h1, pieces_one sep l p hp]
theorem split_ne {b : Bytes} (h : 9 ≤ b.length) : split b ≠ [] := by
  unfold split
  split
  · rename_i hl
    intro h0
    have hn := pieces_ne 13 b
    have hlen : (pieces 13 b).length = 1 := by
      have h1 := congrArg List.length h0
      have h2 := List.length_pos_iff.2 hn
      simp at h1
      omega
    obtain ⟨x, hx⟩ := List.length_eq_one_iff.1 hlen
    rw [hx] at hl
    have hb := pieces_one 13 b x hx
    simp at hl
    rw [← hb, hl] at h
    simp at h
  · exact pieces_ne 13 b
theorem split_each (b : Bytes) : ∀ x ∈ split b, x.length ≤ b.length := by
  intro x hx
  unfold split at hx
  split at hx
  · exact pieces_each 13 b x (List.dropLast_subset _ hx)
  · exact pieces_each 13 b x hx

theorem ten {p : Nat → Prop} (h0 : p 0) (h1 : p 1) (h2 : p 2) (h3 : p 3) (h4 : p 4) (h5 : p 5) (h6 : p 6) (h7 : p 7) (h8 : p 8) (h9 : p 9) (k : Nat) (hk : k < 10) : p k := by
  have hc : k = 0 ∨ k = 1 ∨ k = 2 ∨ k = 3 ∨ k = 4 ∨ k = 5 ∨ k = 6 ∨ k = 7 ∨ k = 8 ∨ k = 9 := by omega
  rcases hc with rfl | rfl | rfl | rfl | rfl | rfl | rfl | rfl | rfl | rfl <;> assumption
/-- The function of the table that leads to a text. -/
def textF (k : Nat) : FuncId := [129, 130, 131, 132, 133, 134, 135, 136, 137, 138].getD k 0
theorem textF_run (k : Nat) (hk : k < 10) : ∀ args w, (callFunc (textF k) args).run Tryz.prog w = .ok (.enter (textF k) args) w := by
  revert k
  refine ten ?_ ?_ ?_ ?_ ?_ ?_ ?_ ?_ ?_ ?_ <;> (intro args w; kernel_rfl)
theorem textF_index (k : Nat) (hk : k < 10) : ∀ w, (Instr.index 163 (.agg textFs.toArray) (.int .i64 k)).run Tryz.prog w = .ok (.agg #[.func (.func (textF k)) #[] #[]]) w := by
  revert k
  refine ten ?_ ?_ ?_ ?_ ?_ ?_ ?_ ?_ ?_ ?_ <;> (intro w; kernel_rfl)
theorem textF_calls (k : Nat) (hk : k < 10) : ∀ w g, Calls Tryz.prog (textF k) #[.pointer (some ⟨g, 0, none⟩)] w fun e w' => e = .returned (.pointer (some ⟨g, 5 + k, none⟩)) ∧ w = w' := by
  revert k
  exact ten text1_calls text2_calls text3_calls text4_calls text5_calls text6_calls text7_calls text8_calls text9_calls text10_calls
theorem head_at (d : Delims) (f : Nat → Bytes) (k : Nat) (hk : k < 10) : (headCells d f)[5 + k]? = some (.string (ofL (f k))) := by
  revert k
  refine ten ?_ ?_ ?_ ?_ ?_ ?_ ?_ ?_ ?_ ?_ <;> rfl
theorem head_put (s : Bytes) (d : Delims) (k : Nat) (hk : k < 10) : (headCells d (partTexts s d k)).setIfInBounds (5 + k) (.string (ofL (field s (3 + (k : Int)) d))) = headCells d (partTexts s d (k + 1)) := by
  revert k
  refine ten ?_ ?_ ?_ ?_ ?_ ?_ ?_ ?_ ?_ ?_ <;> simp [partTexts]

/-- What stands in memory while the head's texts are read: the signs' box, the head. -/
structure ReadAt (w : World) (db hb : Nat) (d : Delims) (s : Bytes) (k : Nat) (W : World) : Prop where
  dv : W.heap[db]? = some (dvObj d)
  hd : W.heap[hb]? = some (.cells (headCells d (partTexts s d k)) 112 (0, 0))
  chg : Chg No w W

theorem five_cells {W : World} {p : Nat} {d : Delims} (h : W.heap[p]? = some (dvObj d)) : W.cell? ⟨p, 0, none⟩ = some (.int .u8 (d.field.toNat : Int)) ∧ W.cell? ⟨p, 1, none⟩ = some (.int .u8 (d.part.toNat : Int)) ∧ W.cell? ⟨p, 2, none⟩ = some (.int .u8 (d.again.toNat : Int)) ∧
    W.cell? ⟨p, 3, none⟩ = some (.int .u8 (d.esc.toNat : Int)) ∧ W.cell? ⟨p, 4, none⟩ = some (.int .u8 (d.sub.toNat : Int)) :=
  ⟨cell_blk h 0, cell_blk h 1, cell_blk h 2, cell_blk h 3, cell_blk h 4⟩

set_option maxHeartbeats 1000000 in
theorem mread_ok {w : World} {v : Value} (b : Bytes) (hb : Bs w v b) (hg : Glob w) (hbl : b.length < 4294967281) (d : Delims) (hd : delimRead b = .ok d) :
    Calls Tryz.prog 61 #[v] w fun e' w' => e' = endHead (readHead b) ∧ Chg No w w' := by
  have HD := Lib.hid (fun w1 h => dread_calls w1 v b h)
  rw [hd] at HD
  unfold endDelims dv at HD
  simp only at HD
  have hb9 : 9 ≤ b.length := by
    rcases Nat.lt_or_ge b.length 9 with h | h
    · rw [delimRead_short b h] at hd; cases hd
    · exact h
  have HRD := Lib.hid (readHead_ok hd)
  obtain ⟨s, ls, hsp⟩ : ∃ s ls, split b = s :: ls := by
    cases h : split b with
    | nil => exact absurd h (split_ne hb9)
    | cons s ls => exact ⟨s, ls, rfl⟩
  rw [hsp] at HRD
  simp only [List.headD_cons] at HRD
  have hsl : s.length < 4294967281 := by have := split_each b s (by rw [hsp]; simp); omega
  have HB := Lib.hid hb
  have HSP := Lib.hid (fun w1 hb h => split_calls0 (w := w1) (v := v) b hb h hbl)
  rw [hsp] at HSP
  have HF := Lib.hid (fun w1 h => field_calls (w := w1) s 2 d h hsl (by decide) (by decide))
  unfold dv at HF
  obtain ⟨q, cap, rfl, _, _, _, _⟩ := hb
  clear hd hb9 hsp
  generalize readHead b = res at HRD ⊢
  go_enter Tryz.func61, Tryz.ntmps61
  go_wp2_with fail
  refine (HD.out _ (HB.out.chg ((Chg.refl No w).alloc (.cells noCells 112)) (fun _ _ x => x))).mono ?_
  rintro e1 w1 ⟨rfl, hc1⟩
  have hb1 := hc1.heap (heap_alloc_new _ _) (fun x => x)
  have HC1 := Lib.hid (((Chg.refl No w).alloc _).trans hc1)
  have HLE := Lib.hid HC1.out.size
  have HB1 := Lib.hid hb1
  clear hc1 hb1
  go_wp2_with fail
  obtain ⟨W2, hW2⟩ : ∃ W2, w1.alloc (dvObj d) = W2 := ⟨_, rfl⟩
  have hc2 : Chg No w1 W2 := by rw [← hW2]; exact (Chg.refl No w1).alloc _
  have hd2 : W2.heap[w1.heap.size]? = some (dvObj d) := by rw [← hW2]; exact heap_alloc_new _ _
  unfold dvObj at hW2
  rw [hW2]
  have HC2 := Lib.hid (HC1.out.trans hc2)
  have HD2 := Lib.hid hd2
  have HB2 := Lib.hid (hc2.heap HB1.out (fun x => x))
  clear hW2 hc2 hd2 HB1 HC1 HD
  refine (HSP.out W2 (HB.out.chg HC2.out (fun _ _ x => x)) (hg.no HC2.out)).mono ?_
  rintro e3 w3 ⟨⟨u, rfl, hown, hnew⟩, hc3⟩
  obtain ⟨g, cp, rfl, hcell⟩ := hown.at 0 (.string (ofL s)) rfl
  obtain ⟨e0, e1, e2, e3, e4⟩ := five_cells (hc3.heap HD2.out (fun x => x))
  have hpos : 0 < (strs (s :: ls)).length := by simp
  have HC3 := Lib.hid (HC2.out.trans hc3)
  have HD3 := Lib.hid (hc3.heap HD2.out (fun x => x))
  have HB3 := Lib.hid (hc3.heap HB2.out (fun x => x))
  clear hown hnew hc3 HD2 HB2 HC2 HSP
  generalize (strs (s :: ls)).length = nl at hpos
  have hposi : (0 : Int) < nl := by omega
  go_wp2_with fail
  refine (HF.out w3 (hg.no HC3.out)).mono ?_
  rintro e5 w5 ⟨rfl, hc5⟩
  clear e0 e1 e2 e3 e4 hcell HF hpos hposi
  obtain ⟨e0, e1, e2, e3, e4⟩ := five_cells (hc5.heap HD3.out (fun x => x))
  have HC5 := Lib.hid (HC3.out.trans hc5)
  have HD5 := Lib.hid (hc5.heap HD3.out (fun x => x))
  have HB5 := Lib.hid (hc5.heap HB3.out (fun x => x))
  have HO := Lib.hid (others_calls w5 d)
  unfold dv at HO
  clear hc5 HD3 HB3 HC3
  go_wp2_with fail
  refine HO.out.mono ?_
  rintro e6 w6 ⟨rfl, hc6⟩
  clear e0 e1 e2 e3 e4 HO
  obtain ⟨e0, e1, e2, e3, e4⟩ := five_cells (hc6.heap HD5.out (fun x => x))
  have HC6 := Lib.hid (HC5.out.trans hc6)
  have HD6 := Lib.hid (hc6.heap HD5.out (fun x => x))
  have HB6 := Lib.hid (hc6.heap HB5.out (fun x => x))
  clear hc6 HD5 HB5 HC5
  by_cases hoth : field s 2 d = d.others
  · have hq : (field s 2 d == d.others) = true := by simpa using hoth
    have hres : res = .ok (headOf d (partTexts s d 10)) := HRD.out.1 hoth
    subst hres
    clear hoth HRD
    go_wp2_with fail
    refine (texts_calls _).mono ?_
    rintro e7 w7 ⟨rfl, hc7⟩
    have hh7 := hc7.heap (heap_alloc_new _ _) (fun x => x)
    have hat : ReadAt w w1.heap.size w6.heap.size d s 0 w7 :=
      ⟨hc7.heap (heap_old_al HD6.out _) (fun x => x), hh7, (HC6.out.alloc _).trans hc7⟩
    have HSZ : Hid (w.heap.size < w6.heap.size ∧ w1.heap.size < w6.heap.size ∧ w.heap.size ≤ w1.heap.size) := Lib.hid ⟨lt_of_heap HB6.out, lt_of_heap HD6.out, HLE.out⟩
    have HAT := Lib.hid hat
    have HB7 := Lib.hid (hc7.heap (heap_old_al HB6.out _) (fun x => x))
    clear hat hh7 hc7 e0 e1 e2 e3 e4 HD6 HB6 HC6
    go_wp2_with fail
    go_loopw [39] (fun i wr => ∃ k : Nat, k ≤ 10 ∧ i = .int .i64 k ∧ ReadAt w w1.heap.size w6.heap.size d s k wr ∧ wr.heap[w.heap.size]? = some (.cells noCells 112 (0, 0))) (fun i _ => 10 - (intOf i).toNat)
    case atStart => exact ⟨0, by omega, rfl, HAT.out, HB7.out⟩
    case round =>
      obtain ⟨k, hk, rfl, hat, hbk⟩ := hrel
      by_cases hlt : k < 10
      · have hix := textF_index k hlt
        have hcf := textF_run k hlt
        have HTC := Lib.hid (textF_calls k hlt)
        have HPUT := Lib.hid (head_put s d k hlt)
        have hca := cell_blk hat.hd (5 + k)
        rw [head_at d _ k hlt] at hca
        have HCA := Lib.hid hca
        have HFR := Lib.hid (free_blk hat.hd (5 + k))
        generalize textF k = F at hix hcf HTC
        have HAT := Lib.hid hat
        have HBK := Lib.hid hbk
        have HF := Lib.hid (fun w1 h => field_calls (w := w1) s (3 + (k : Int)) d h hsl (by omega) (by omega))
        unfold dv at HF
        clear hat hbk hca
        obtain ⟨W, hW⟩ : ∃ W, wr.alloc (.cells #[.func (.func F) #[] #[]] 162) = W := ⟨_, rfl⟩
        have hcW : Chg No wr W := by rw [← hW]; exact (Chg.refl No wr).alloc _
        have hf0 : W.cell? ⟨wr.heap.size, 0, none⟩ = some (.func (.func F) #[] #[]) := by rw [← hW]; exact cell_blk (heap_alloc_new _ _) 0
        obtain ⟨e0, e1, e2, e3, e4⟩ := five_cells (hcW.heap HAT.out.dv (fun x => x))
        have HCW := Lib.hid hcW
        clear hcW
        go_wp2_with fail
        have hwr : IntKind.i64.wrap (3 + (k : Int)) = 3 + (k : Int) := IntWalk.i64_in _ (by omega)
        have HTD := Lib.hid (HTC.out W.drew w6.heap.size)
        have HFD := Lib.hid (HF.out W.drew (hg.no ((HAT.out.chg.trans HCW.out).drew)))
        have hf0d : W.drew.cell? ⟨wr.heap.size, 0, none⟩ = some (.func (.func F) #[] #[]) := hf0
        obtain ⟨d0, d1, d2, d3, d4⟩ := five_cells (show W.drew.heap[w1.heap.size]? = some (dvObj d) from HCW.out.heap HAT.out.dv (fun x => x))
        clear hf0 e0 e1 e2 e3 e4 hix HTC HF HB
        go_region_law ((go_simp; first
          | (go_at_call 64; (with_reducible refine HFD.out.mono ?_); rintro e w8 ⟨rfl, hc8⟩; have k8 := hc8.cell (show W.drew.cell? _ = _ from HCW.out.cell HCA.out (fun x => x)) (fun x => x); have f8 := hc8.free (show W.drew.cell? _ = _ from HCW.out.cell HCA.out (fun x => x)) (show W.drew.frozen? _ = _ from HCW.out.free HCA.out HFR.out (fun x => x)) (fun x => x); have HC8 := Lib.hid hc8; clear hc8)
          | ((with_reducible refine HTD.out.mono ?_); rintro e w7' ⟨rfl, rfl⟩)))
        all_goals
          have hrel' : ∃ k' : Nat, k' ≤ 10 ∧ Value.int .i64 ((k : Int) + 1) = .int .i64 k' ∧ ReadAt w w1.heap.size w6.heap.size d s k' (w8.setCell ⟨w6.heap.size, 5 + k, none⟩ (.string (ofL (field s (3 + (k : Int)) d)))) ∧
              (w8.setCell ⟨w6.heap.size, 5 + k, none⟩ (.string (ofL (field s (3 + (k : Int)) d)))).heap[w.heap.size]? = some (.cells noCells 112 (0, 0)) := by
            have hsz := HSZ.out
            have hc0 : Chg No wr w8 := (HCW.out.drew).trans HC8.out
            refine ⟨k + 1, by omega, by go_num, ⟨?_, ?_, ?_⟩, ?_⟩
            · exact set_other (hc0.heap HAT.out.dv (fun x => x)) _ _ (by omega)
            · rw [set_blk (hc0.heap HAT.out.hd (fun x => x)), HPUT.out]
            · exact (HAT.out.chg.trans hc0).setCell (p := ⟨w6.heap.size, 5 + k, none⟩) (.inr (by show w.heap.size ≤ w6.heap.size; omega)) _
            · exact set_other (hc0.heap HBK.out (fun x => x)) _ _ (by omega)
          have HR := Lib.hid hrel'
          clear hrel'
          go_wp2_with fail
          go_roundw
          case rel => exact HR.out
          case measure => simp [intOf]; omega
      · obtain rfl : k = 10 := by omega
        have HAT := Lib.hid hat
        have HBK := Lib.hid hbk
        clear hat hbk hlt HB
        go_wp2_with (first
          | (refine wpList_load_row rfl 112 _ rfl w6.heap.size rfl 112 _ (0, 0) _ HAT.out.hd Tryz.underlying112 rfl (by kernel_rfl) ?_)
          | (refine wpList_store_row rfl 112 _ _ rfl w.heap.size (headCells d (partTexts s d 10)) rfl rfl 112 _ HBK.out (by kernel_rfl) rfl (one_head _ _) ?_; intro hb2 hc2; have HB8 := Lib.hid hb2; have HC8 := Lib.hid hc2; clear hb2 hc2))
        refine bodyPost_ret (results_cell_tmp_row rfl _ _ w.heap.size 112 (headCells d (partTexts s d 10)) (0, 0) _ rfl HB8.out Tryz.underlying112 rfl (by kernel_rfl)) rfl ⟨rfl, ?_⟩
        exact HAT.out.chg.then HC8.out (by rintro i rfl; right; exact Nat.le_refl _)
  · have hq : (field s 2 d == d.others) = false := by simpa using hoth
    have hres : res = .error 11 := HRD.out.2 hoth
    subst hres
    clear hoth HRD
    go_wp2_with (refine wpList_store_row rfl 112 _ _ rfl w.heap.size noCells rfl rfl 112 _ HB6.out (by kernel_rfl) rfl one_none ?_; intro hb2 hc2; have HB7 := Lib.hid hb2; have HC7 := Lib.hid hc2; clear hb2 hc2)
    refine bodyPost_ret (results_cell_tmp_row rfl _ _ w.heap.size 112 noCells (0, 0) _ rfl HB7.out Tryz.underlying112 rfl (by kernel_rfl)) rfl ⟨rfl, ?_⟩
    exact HC6.out.then HC7.out (by rintro i rfl; right; exact Nat.le_refl _)

theorem mread_calls {w : World} {v : Value} (b : Bytes) (hb : Bs w v b) (hg : Glob w) (hbl : b.length < 4294967281) :
    Calls Tryz.prog 61 #[v] w fun e' w' => e' = endHead (readHead b) ∧ Chg No w w' := by
  cases h : delimRead b with
  | error e =>
    have hr : readHead b = .error e := by unfold readHead; rw [h]
    rw [hr]
    exact mread_error b hb e h
  | ok d => exact mread_ok b hb hg hbl d h
end Go.Proofs.YtgpmnicmgehmbaaGreatDoor


namespace Go.Proofs.YtgpmnicmgehmbaaGreatDoor
open Go.RowKit Lamp
set_option maxRecDepth 100000
set_option maxHeartbeats 400000

abbrev tsOf (f : Nat → Bytes) : List Bytes := [f 0, f 1, f 2, f 3, f 4, f 5, f 6, f 7, f 8, f 9]
theorem ts_take (f : Nat → Bytes) (k : Nat) (hk : k < 10) : (tsOf f).take (k + 1) = (tsOf f).take k ++ [f k] := by
  revert k
  refine ten ?_ ?_ ?_ ?_ ?_ ?_ ?_ ?_ ?_ ?_ <;> rfl
theorem trimEnd_snoc (l : List Bytes) (x : Bytes) : trimEnd (l ++ [x]) = if x = [] then trimEnd l else l ++ [x] := by
  induction l with
  | nil => by_cases h : x = [] <;> simp [trimEnd, h]
  | cons y l ih =>
    simp only [List.cons_append, trimEnd]
    rw [ih]
    by_cases h : x = []
    · simp [h]
    · simp only [if_neg h]
      cases l <;> simp
theorem trimEnd_take : ∀ l : List Bytes, trimEnd l = l.take (trimEnd l).length
  | [] => rfl
  | x :: l => by
    have ih := trimEnd_take l
    simp only [trimEnd]
    cases h : trimEnd l with
    | nil => by_cases hx : x = [] <;> simp [hx]
    | cons y r =>
      rw [h] at ih
      simp only [List.length_cons, List.take_succ_cons]
      rw [show r.length + 1 = (y :: r).length from rfl, ← ih]
theorem trimEnd_len (l : List Bytes) : (trimEnd l).length ≤ l.length := by
  have h := congrArg List.length (trimEnd_take l)
  rw [List.length_take] at h
  omega
/-- How many texts are written, of the first k. -/
def fullOf (f : Nat → Bytes) (k : Nat) : Nat := 2 + (trimEnd ((tsOf f).take k)).length
theorem fullOf_step (f : Nat → Bytes) (k : Nat) (hk : k < 10) : fullOf f (k + 1) = if f k = [] then fullOf f k else k + 3 := by
  unfold fullOf
  rw [ts_take f k hk, trimEnd_snoc]
  by_cases h : f k = []
  · rw [if_pos h, if_pos h]
  · rw [if_neg h, if_neg h]
    simp
    omega
theorem fullOf_le (f : Nat → Bytes) (k : Nat) (_hk : k ≤ 10) : 2 ≤ fullOf f k ∧ fullOf f k ≤ k + 2 := by
  unfold fullOf
  have := trimEnd_len ((tsOf f).take k)
  rw [List.length_take] at this
  omega

section
variable {P : Program} {w : World} {o : Oper} {a : Act} {Q : Exit → Act → World → Prop}
theorem wpList_app1 {ops : Array Oper} {rest : List Oper} (hgd : o.guard = none) (s x : Operand) (t : TypeId)
    (ho : o.op = .call { callee := .builtin .append, args := #[s, x], argTypes := #[t, t] })
    (E : TypeId) (z : Value) (bytes : Nat) (ht : P.underlying t = some (.slice E)) (he : Elem P E z bytes) (hzs : z.cells.size = 1)
    (v : Value) (xs : List Value) (hs : a.eval s = v) (hown : Own w E v xs) (vx : Value) (news : List Value) (hx : a.eval x = vx) (hsrc : Src w vx news) (h1 : ∀ u ∈ news, u.oneCell' = true) (hne : news ≠ [])
    (hb : (xs.length + news.length) * bytes ≤ 140737488355328) (hp : xs.length + news.length ≤ maxLen)
    (h : ∀ g cap w', Own w' E (.slice (some ⟨g, 0, none⟩) (xs.length + news.length) cap) (xs ++ news) → Chg (fun k => v.ownBlock = some k) w w' → (v.ownBlock = some g ∨ g = w.heap.size) →
      xs.length + news.length ≤ cap → wpList P ops Q rest (a.put o.dst (.slice (some ⟨g, 0, none⟩) (xs.length + news.length) cap)) w') : wpList P ops Q (o :: rest) a w :=
  wpList_plain hgd fun _ hK => wp_app1 s x t ho E z bytes ht he hzs v xs hs hown vx news hx hsrc h1 hne hb hp fun g cap w' h2 h3 h4 h5 => hK _ _ (h g cap w' h2 h3 h4 h5)
end

theorem contains1_calls (w : World) (s : Bytes) (c : UInt8) : Calls Tryz.prog 161 #[.string (ofL s), .string (ofL [c])] w fun e w' => e = .returned (.bool (s.contains c)) ∧ w = w' := by
  refine (Tryz.strings_Contains_one (ofL s) c w).mono ?_
  rintro e w' ⟨rfl, rfl⟩
  exact ⟨by rw [Lib.contains_iff_indexByte]; rfl, rfl⟩

/-- How a head's writing ends. -/
def endText : Except Int Bytes → Ending
  | .ok s => .returned (.tuple #[.string (ofL s), .int .i64 0])
  | .error e => .returned (.tuple #[.string (ofL []), .int .i64 e])

theorem mwrite_signs {w : World} (d : Delims) (f : Nat → Bytes) (h : d.right = false) : Calls Tryz.prog 118 #[hv d f] w fun e w' => e = endText (.error 11) ∧ Chg No w w' := by
  have HR := Lib.hid (fun w1 => right_calls w1 d)
  rw [h] at HR
  unfold dv at HR
  unfold hv headCells
  go_enter Tryz.func118, Tryz.ntmps118
  go_wp2_with fail
  refine (HR.out _).mono ?_
  rintro e w1 ⟨rfl, hc⟩
  have HC := Lib.hid (((Chg.refl No w).alloc _).trans hc)
  clear hc
  go_wp2_with fail
  go_ret2
  exact ⟨rfl, HC.out⟩

/-- What stands in memory while a head's texts are written: the head, the row of texts. -/
structure WriteAt (w : World) (d : Delims) (f : Nat → Bytes) (k : Nat) (v : Value) (W : World) : Prop where
  own : ∃ g cap, v = .slice (some ⟨g, 0, none⟩) (k + 2) cap ∧ k + 2 ≤ cap ∧ Own W 9 v (strs ([d.field] :: d.others :: (tsOf f).take k)) ∧ w.heap.size < g
  hd : W.heap[w.heap.size]? = some (.cells (headCells d f) 112 (0, 0))
  chg : Chg No w W
  good : ∀ i < k, (f i).contains d.field = false ∧ (f i).contains 13 = false

theorem writeHead_bad (d : Delims) (f : Nat → Bytes) (h : d.right = true) (k : Nat) (hk : k < 10) (hb : (f k).contains d.field = true ∨ (f k).contains 13 = true) : writeHead (headOf d f) = .error 10 := by
  unfold writeHead
  rw [if_neg (by simp [h]), if_pos]
  rw [List.any_eq_true]
  refine ⟨f k, ?_, by rcases hb with hb | hb <;> simp only [hb, Bool.or_true, Bool.true_or]⟩
  revert k
  intro k hk _
  revert k
  refine ten ?_ ?_ ?_ ?_ ?_ ?_ ?_ ?_ ?_ ?_ <;> simp
theorem writeHead_good (d : Delims) (f : Nat → Bytes) (h : d.right = true) (hb : ∀ i < 10, (f i).contains d.field = false ∧ (f i).contains 13 = false) : writeHead (headOf d f) = .ok (make d msh ([d.field] :: d.others :: trimEnd (tsOf f))) := by
  unfold writeHead
  rw [if_neg (by simp [h]), if_neg]
  rw [List.any_eq_true]
  rintro ⟨x, hx, hc⟩
  have hx' : ∃ i < 10, x = f i := by
    simp only [List.mem_cons, List.not_mem_nil, or_false] at hx
    rcases hx with rfl | rfl | rfl | rfl | rfl | rfl | rfl | rfl | rfl | rfl
    all_goals first | exact ⟨0, by decide, rfl⟩ | exact ⟨1, by decide, rfl⟩ | exact ⟨2, by decide, rfl⟩ | exact ⟨3, by decide, rfl⟩ | exact ⟨4, by decide, rfl⟩ | exact ⟨5, by decide, rfl⟩ | exact ⟨6, by decide, rfl⟩ | exact ⟨7, by decide, rfl⟩ | exact ⟨8, by decide, rfl⟩ | exact ⟨9, by decide, rfl⟩
  obtain ⟨i, hi, rfl⟩ := hx'
  obtain ⟨h1, h2⟩ := hb i hi
  rw [h1, h2] at hc
  cases hc

theorem sepJoin_len (sep : UInt8) (B : Nat) : ∀ l : List Bytes, (∀ x ∈ l, x.length ≤ B) → (sepJoin sep l).length ≤ l.length * (B + 1)
  | [], _ => by simp [sepJoin]
  | [x], h => by
    have := h x (by simp)
    simp only [sepJoin, List.length_cons, List.length_nil]
    omega
  | x :: y :: l, h => by
    have h1 := h x (by simp)
    have ih := sepJoin_len sep B (y :: l) (fun z hz => h z (by simp [hz]))
    simp only [sepJoin, List.length_append, List.length_cons, Nat.succ_mul] at ih ⊢
    omega
theorem ts_each (f : Nat → Bytes) (B : Nat) (hl : ∀ i < 10, (f i).length ≤ B) : ∀ x ∈ tsOf f, x.length ≤ B := by
  intro x hx
  simp only [List.mem_cons, List.not_mem_nil, or_false] at hx
  rcases hx with rfl | rfl | rfl | rfl | rfl | rfl | rfl | rfl | rfl | rfl
  all_goals first | exact hl 0 (by decide) | exact hl 1 (by decide) | exact hl 2 (by decide) | exact hl 3 (by decide) | exact hl 4 (by decide) | exact hl 5 (by decide) | exact hl 6 (by decide) | exact hl 7 (by decide) | exact hl 8 (by decide) | exact hl 9 (by decide)

theorem mwrite_calls0 {w : World} (d : Delims) (f : Nat → Bytes) (h : d.right = true) (hl : ∀ i < 10, (f i).length ≤ 100000) : Calls Tryz.prog 118 #[hv d f] w fun e w' => e = endText (writeHead (headOf d f)) ∧ Chg No w w' := by
  have HR := Lib.hid (fun w1 => right_calls w1 d)
  rw [h] at HR
  have HO := Lib.hid (fun w1 => others_calls w1 d)
  unfold dv at HR HO
  unfold hv
  obtain ⟨W, hW⟩ : ∃ W, w.alloc (.cells (headCells d f) 112) = W := ⟨_, rfl⟩
  have hcW : Chg No w W := by rw [← hW]; exact (Chg.refl No w).alloc _
  have hb : W.heap[w.heap.size]? = some (.cells (headCells d f) 112 (0, 0)) := by rw [← hW]; exact heap_alloc_new _ _
  have c0 := cell_blk hb 0
  have c1 := cell_blk hb 1
  have c2 := cell_blk hb 2
  have c3 := cell_blk hb 3
  have c4 := cell_blk hb 4
  simp only [List.getElem?_toArray, List.getElem?_cons_succ, List.getElem?_cons_zero] at c0 c1 c2 c3 c4
  have HCW := Lib.hid hcW
  have HB := Lib.hid hb
  have HBAD := Lib.hid (writeHead_bad d f h)
  have HGD := Lib.hid (writeHead_good d f h)
  clear hcW hb
  generalize writeHead (headOf d f) = res at HBAD HGD ⊢
  unfold headCells at hW ⊢
  go_enter Tryz.func118, Tryz.ntmps118
  go_wp2_with fail
  refine (HR.out W).mono ?_
  rintro e w1 ⟨rfl, hc1⟩
  have HB1 := Lib.hid (hc1.heap HB.out (fun x => x))
  have HC1 := Lib.hid (HCW.out.trans hc1)
  clear c0 c1 c2 c3 c4 hc1 HR hW
  have c0 := cell_blk HB1.out 0
  have c1 := cell_blk HB1.out 1
  have c2 := cell_blk HB1.out 2
  have c3 := cell_blk HB1.out 3
  have c4 := cell_blk HB1.out 4
  simp only [headCells, List.getElem?_toArray, List.getElem?_cons_succ, List.getElem?_cons_zero] at c0 c1 c2 c3 c4
  have hcv := run_sign w1 d.field
  have hcA : Chg No w1 (w1.alloc (.cells #[.int .u8 (d.field.toNat : Int)] 5)) := (Chg.refl No w1).alloc _
  have d0 := hcA.cell c0 (fun x => x)
  have d1 := hcA.cell c1 (fun x => x)
  have d2 := hcA.cell c2 (fun x => x)
  have d3 := hcA.cell c3 (fun x => x)
  have d4 := hcA.cell c4 (fun x => x)
  have HCA := Lib.hid (HC1.out.trans hcA)
  have HBA := Lib.hid (hcA.heap HB1.out (fun x => x))
  clear hcA
  go_wp2_with fail
  refine (HO.out _).mono ?_
  rintro e w2 ⟨rfl, hc2⟩
  have HB2 := Lib.hid (hc2.heap HBA.out (fun x => x))
  have HC2 := Lib.hid (HCA.out.trans hc2)
  clear c0 c1 c2 c3 c4 d0 d1 d2 d3 d4 hc2 HCA HBA HC1 HB1 hcv
  go_wp2_with fail
  refine (texts_calls _).mono ?_
  rintro e w3 ⟨rfl, hc3⟩
  have hat : WriteAt w d f 0 (.slice (some ⟨w2.heap.size, 0, none⟩) 2 2) w3 := by
    refine ⟨⟨w2.heap.size, 2, rfl, Nat.le_refl _, ?_, lt_of_heap HB2.out⟩, hc3.heap (heap_old_al HB2.out _) (fun x => x), (HC2.out.alloc _).trans hc3, fun i hi => by omega⟩
    exact (Own.lit w2 9 #[.string (ofL [d.field]), .string (ofL d.others)] (by simp [maxLen])).kept hc3 (fun _ _ x => x)
  have HAT := Lib.hid hat
  clear hat hc3
  go_wp2_with fail
  go_loopw [5, 6, 27] (fun v fu i wr => ∃ k : Nat, k ≤ 10 ∧ i = .int .i64 k ∧ fu = .int .i64 (fullOf f k) ∧ WriteAt w d f k v wr) (fun _ _ i _ => 10 - (intOf i).toNat)
  case atStart => exact ⟨0, by omega, rfl, rfl, HAT.out⟩
  case round =>
    obtain ⟨k, hk, rfl, rfl, hat⟩ := hrel
    by_cases hlt : k < 10
    · have hix := textF_index k hlt
      have hcf := textF_run k hlt
      have HTC := Lib.hid (textF_calls k hlt)
      have hca := cell_blk hat.hd (5 + k)
      rw [head_at d _ k hlt] at hca
      have hstep := fullOf_step f k hlt
      have htk := ts_take f k hlt
      have hlk := hl k hlt
      have HSTEP := Lib.hid hstep
      have HTK := Lib.hid htk
      have HLT := Lib.hid hlt
      have HLK := Lib.hid hlk
      generalize textF k = F at hix hcf HTC
      obtain ⟨⟨g, cap, rfl, hcap, hown, hgw⟩, hhd, hchg, hgood⟩ := hat
      have HOWN := Lib.hid hown
      have HHD := Lib.hid hhd
      have HCHG := Lib.hid hchg
      have HGOOD := Lib.hid hgood
      have HGW := Lib.hid hgw
      have hcA : Chg No wr (wr.alloc (.cells #[.func (.func F) #[] #[]] 162)) := (Chg.refl No wr).alloc _
      have hcb := hcA.cell hca (fun x => x)
      have HCA := Lib.hid hcA
      clear hown hhd hchg hgood hstep htk hcA hca hlk hgw
      go_wp2_with fail
      refine (HTC.out _ _).mono ?_
      rintro e w4 ⟨rfl, rfl⟩
      go_wp2_with fail
      refine (contains1_calls _ (f k) d.field).mono ?_
      rintro e w5 ⟨rfl, rfl⟩
      cases h1 : (f k).contains d.field with
      | true =>
        obtain rfl := HBAD.out k HLT.out (.inl h1)
        clear HBAD HGD
        go_wp2_with fail
        go_ret2
        exact ⟨rfl, HCHG.out.alloc _⟩
      | false =>
        go_wp2_with fail
        refine (contains1_calls _ (f k) 13).mono ?_
        rintro e w5 ⟨rfl, rfl⟩
        cases h2 : (f k).contains 13 with
        | true =>
          obtain rfl := HBAD.out k HLT.out (.inr h2)
          clear HBAD HGD
          go_wp2_with fail
          go_ret2
          exact ⟨rfl, HCHG.out.alloc _⟩
        | false =>
          have HG2 : Hid (∀ i < k + 1, (f i).contains d.field = false ∧ (f i).contains 13 = false) := Lib.hid fun i hi => by
            rcases Nat.lt_or_ge i k with hi' | hi'
            · exact HGOOD.out i hi'
            · obtain rfl : i = k := by omega
              exact ⟨h1, h2⟩
          clear h1 h2 HGOOD
          by_cases hx : f k = []
          · have hx' : (f k).isEmpty = true := by simp [hx]
            have HX := Lib.hid hx
            clear hx
            have hsrc := Src.one (wr.alloc (.cells #[.func (.func F) #[] #[]] 162)) (.string (ofL (f k))) 9
            rw [World.size_alloc] at hsrc
            have HSRC := Lib.hid hsrc
            clear hsrc
            have HLEN : Hid ((strs ([d.field] :: d.others :: (tsOf f).take k)).length = k + 2) := Lib.hid (by have := HLT.out; simp; omega)
            have HB2 : Hid ((k + 2 + [Value.string (ofL (f k))].length) * 16 ≤ 140737488355328) := Lib.hid (by have := HLT.out; simp; omega)
            have HB3 : Hid (k + 2 + [Value.string (ofL (f k))].length ≤ maxLen) := Lib.hid (by have := HLT.out; simp [maxLen]; omega)
            go_wp2_with (at_builtin; (refine wpList_app1 rfl _ _ 115 rfl 9 (.string ⟨#[]⟩) 16 Tryz.underlying115 elem_string rfl (.slice (some ⟨g, 0, none⟩) (k + 2) cap) (strs ([d.field] :: d.others :: (tsOf f).take k)) rfl ((HOWN.out.alloc _).alloc _) _ [.string (ofL (f k))] rfl HSRC.out (strs_one [f k]) ?o1 ?o2 ?o3 ?_); (case o1 => simp); (case o2 => (rw [HLEN.out]; exact HB2.out)); (case o3 => (rw [HLEN.out]; exact HB3.out)); intro g2 cap2 w6 hown6 hchg6 hblk6 hcap6; have HOWN6 := Lib.hid hown6; have HCHG6 := Lib.hid hchg6; have HBLK6 := Lib.hid hblk6; have HCAP6 := Lib.hid hcap6; clear hown6 hchg6 hblk6 hcap6)
            have hgw := HGW.out
            have hwz := HCHG.out.size
            have hc0 : Chg No wr ((wr.alloc (.cells #[.func (.func F) #[] #[]] 162)).alloc (.cells #[.string (ofL (f k))] 9)) := ((Chg.refl No wr).alloc _).alloc _
            have hg2 : w.heap.size < g2 := by
              rcases HBLK6.out with h | h
              · have h : g = g2 := by simpa [Value.ownBlock] using h
                omega
              · simp only [World.size_alloc] at h; omega
            have hown6 := HOWN6.out
            rw [HLEN.out] at hown6
            have hlt := HLT.out
            have hat' : WriteAt w d f (k + 1) (.slice (some ⟨g2, 0, none⟩) (k + 1 + 2) cap2) w6 := by
              refine ⟨⟨g2, cap2, rfl, by have := HCAP6.out; rw [HLEN.out] at this; simpa using this, ?_, hg2⟩, ?_, ?_, HG2.out⟩
              · rw [HTK.out]
                have hl : strs ([d.field] :: d.others :: ((tsOf f).take k ++ [f k])) = strs ([d.field] :: d.others :: (tsOf f).take k) ++ [.string (ofL (f k))] := by simp [strs]
                rw [hl]
                exact hown6
              · exact HCHG6.out.heap (hc0.heap HHD.out (fun x => x)) (by intro hi; have hi : g = w.heap.size := (by simpa [Value.ownBlock] using hi); omega)
              · exact (HCHG.out.trans hc0).then HCHG6.out (by intro i hi; right; have hi : g = i := (by simpa [Value.ownBlock] using hi); omega)
            exact ⟨⟨k + 1, by omega, by go_num, by rw [HSTEP.out, if_pos HX.out], hat'⟩, by simp [intOf]; omega⟩
          · have hx' : (f k).isEmpty = false := by simpa using hx
            have HX := Lib.hid hx
            clear hx
            have hsrc := Src.one (wr.alloc (.cells #[.func (.func F) #[] #[]] 162)) (.string (ofL (f k))) 9
            rw [World.size_alloc] at hsrc
            have HSRC := Lib.hid hsrc
            clear hsrc
            have HLEN : Hid ((strs ([d.field] :: d.others :: (tsOf f).take k)).length = k + 2) := Lib.hid (by have := HLT.out; simp; omega)
            have HB2 : Hid ((k + 2 + [Value.string (ofL (f k))].length) * 16 ≤ 140737488355328) := Lib.hid (by have := HLT.out; simp; omega)
            have HB3 : Hid (k + 2 + [Value.string (ofL (f k))].length ≤ maxLen) := Lib.hid (by have := HLT.out; simp [maxLen]; omega)
            go_wp2_with (at_builtin; (refine wpList_app1 rfl _ _ 115 rfl 9 (.string ⟨#[]⟩) 16 Tryz.underlying115 elem_string rfl (.slice (some ⟨g, 0, none⟩) (k + 2) cap) (strs ([d.field] :: d.others :: (tsOf f).take k)) rfl ((HOWN.out.alloc _).alloc _) _ [.string (ofL (f k))] rfl HSRC.out (strs_one [f k]) ?o1 ?o2 ?o3 ?_); (case o1 => simp); (case o2 => (rw [HLEN.out]; exact HB2.out)); (case o3 => (rw [HLEN.out]; exact HB3.out)); intro g2 cap2 w6 hown6 hchg6 hblk6 hcap6; have HOWN6 := Lib.hid hown6; have HCHG6 := Lib.hid hchg6; have HBLK6 := Lib.hid hblk6; have HCAP6 := Lib.hid hcap6; clear hown6 hchg6 hblk6 hcap6)
            have hgw := HGW.out
            have hwz := HCHG.out.size
            have hc0 : Chg No wr ((wr.alloc (.cells #[.func (.func F) #[] #[]] 162)).alloc (.cells #[.string (ofL (f k))] 9)) := ((Chg.refl No wr).alloc _).alloc _
            have hg2 : w.heap.size < g2 := by
              rcases HBLK6.out with h | h
              · have h : g = g2 := by simpa [Value.ownBlock] using h
                omega
              · simp only [World.size_alloc] at h; omega
            have hown6 := HOWN6.out
            rw [HLEN.out] at hown6
            have hlt := HLT.out
            have hat' : WriteAt w d f (k + 1) (.slice (some ⟨g2, 0, none⟩) (k + 1 + 2) cap2) w6 := by
              refine ⟨⟨g2, cap2, rfl, by have := HCAP6.out; rw [HLEN.out] at this; simpa using this, ?_, hg2⟩, ?_, ?_, HG2.out⟩
              · rw [HTK.out]
                have hl : strs ([d.field] :: d.others :: ((tsOf f).take k ++ [f k])) = strs ([d.field] :: d.others :: (tsOf f).take k) ++ [.string (ofL (f k))] := by simp [strs]
                rw [hl]
                exact hown6
              · exact HCHG6.out.heap (hc0.heap HHD.out (fun x => x)) (by intro hi; have hi : g = w.heap.size := (by simpa [Value.ownBlock] using hi); omega)
              · exact (HCHG.out.trans hc0).then HCHG6.out (by intro i hi; right; have hi : g = i := (by simpa [Value.ownBlock] using hi); omega)
            exact ⟨⟨k + 1, by omega, by go_num, by rw [HSTEP.out, if_neg HX.out]; rfl, hat'⟩, by simp [intOf]; omega⟩
    · obtain rfl : k = 10 := by omega
      obtain ⟨⟨g, cap, rfl, hcap, hown, hgw⟩, hhd, hchg, hgood⟩ := hat
      obtain rfl := HGD.out hgood
      have hfl := fullOf_le f 10 (Nat.le_refl _)
      have hL : ([d.field] :: d.others :: trimEnd (tsOf f)).length = fullOf f 10 := by
        unfold fullOf
        rw [List.take_of_length_le (by simp)]
        simp
        omega
      have hss : Ss wr (.slice (some ⟨g, 0, none⟩) ([d.field] :: d.others :: trimEnd (tsOf f)).length cap) ([d.field] :: d.others :: trimEnd (tsOf f)) := by
        rw [List.take_of_length_le (show (tsOf f).length ≤ 10 by simp)] at hown
        have h1 := Ss.take (l := [d.field] :: d.others :: tsOf f) (q := some ⟨g, 0, none⟩) (cap := cap) (Ss.of_own hown) (fullOf f 10) (by simpa using hfl.2)
        have h2 : ([d.field] :: d.others :: tsOf f).take (fullOf f 10) = [d.field] :: d.others :: trimEnd (tsOf f) := by
          conv => rhs; rw [trimEnd_take (tsOf f)]
          unfold fullOf
          rw [List.take_of_length_le (show (tsOf f).length ≤ 10 by simp), Nat.add_comm]
          rfl
        rw [h2] at h1
        rw [hL]
        exact h1
      have hte : ∀ x ∈ trimEnd (tsOf f), x.length ≤ 100000 := by
        intro x hx
        rw [trimEnd_take] at hx
        exact ts_each f 100000 hl x (List.mem_of_mem_take hx)
      have hsj := sepJoin_len d.field 100000 ((msh ++ ([[d.field], d.others] : List Bytes).flatten) :: trimEnd (tsOf f)) (by
        intro x hx
        rcases List.mem_cons.1 hx with rfl | hx
        · simp [msh, Delims.others]
        · exact hte x hx)
      have htl := trimEnd_len (tsOf f)
      have hmk := fun w1 (hs : Ss w1 (.slice (some ⟨g, 0, none⟩) ([d.field] :: d.others :: trimEnd (tsOf f)).length cap) ([d.field] :: d.others :: trimEnd (tsOf f))) =>
        make_msh (w := w1) d ([d.field] :: d.others :: trimEnd (tsOf f)) hs (by simp) (by rw [hL]; omega) (by rw [hL]; omega) (by
          simp only [List.take_succ_cons, List.take_zero, List.drop_succ_cons, List.drop_zero]
          simp only [List.length_cons, List.length_nil] at hsj htl
          have : ((trimEnd (tsOf f)).length + 1) * (100000 + 1) ≤ 12 * 100001 := Nat.mul_le_mul (by omega) (Nat.le_refl _)
          omega) (by simp [Delims.others])
      rw [hL] at hmk hss
      have HMK := Lib.hid hmk
      have HSS := Lib.hid hss
      have HCH := Lib.hid hchg
      have hfc : (fullOf f 10 : Int) ≤ cap := by omega
      have hf0 : (0 : Int) ≤ fullOf f 10 := by omega
      have c0 := cell_blk hhd 0
      have c1 := cell_blk hhd 1
      have c2 := cell_blk hhd 2
      have c3 := cell_blk hhd 3
      have c4 := cell_blk hhd 4
      simp only [headCells, List.getElem?_toArray, List.getElem?_cons_succ, List.getElem?_cons_zero] at c0 c1 c2 c3 c4
      clear hown hgw hhd hchg hgood hfl hL hss hte hsj htl hmk hlt HBAD HGD HAT
      obtain ⟨r, hr⟩ : ∃ r, make d msh ([d.field] :: d.others :: trimEnd (tsOf f)) = r := ⟨_, rfl⟩
      rw [hr] at HMK
      have HR0 := Lib.hid hr
      clear hr
      generalize fullOf f 10 = fu at HMK HSS hfc hf0 ⊢
      unfold dv at HMK
      go_wp2_with fail
      go_still_tail 5, (by kernel_rfl)
      change wpList _ _ _ _ _ wr.drew
      go_wp2_with fail
      refine (HMK.out _ (HSS.out.no ((Chg.refl No wr).drew))).mono ?_
      rintro e w5 ⟨rfl, hc5⟩
      have HC5 := Lib.hid ((HCH.out.drew).trans hc5)
      clear hc5
      go_wp2_with fail
      go_ret2
      refine ⟨?_, HC5.out⟩
      show _ = endText (.ok (make d msh ([d.field] :: d.others :: trimEnd (tsOf f))))
      rw [HR0.out]
      rfl

theorem mwrite_calls {w : World} (d : Delims) (f : Nat → Bytes) (hl : ∀ i < 10, (f i).length ≤ 100000) : Calls Tryz.prog 118 #[hv d f] w fun e w' => e = endText (writeHead (headOf d f)) ∧ Chg No w w' := by
  cases h : d.right with
  | false =>
    have hr : writeHead (headOf d f) = .error 11 := by unfold writeHead; rw [if_pos h]
    rw [hr]
    exact mwrite_signs d f h
  | true => exact mwrite_calls0 d f h hl
end Go.Proofs.YtgpmnicmgehmbaaGreatDoor


namespace Go.Proofs.YtgpmnicmgehmbaaGreatDoor
open Go.RowKit Lamp
set_option maxRecDepth 100000
set_option maxHeartbeats 400000

/-- The texts of the answer's head. -/
abbrev ackF (f : Nat → Bytes) : Nat → Bytes := fun i => [f 2, f 3, f 0, f 1, f 4, [], [65, 67, 75], f 7, f 8, f 9].getD i []
theorem ackHead_of (d : Delims) (f : Nat → Bytes) : ackHead (headOf d f) = headOf d (ackF f) := rfl

theorem writeHead_len (d : Delims) (f : Nat → Bytes) (hl : ∀ i < 10, (f i).length ≤ 100000) (s : Bytes) (h : writeHead (headOf d f) = .ok s) : s.length ≤ 1200012 := by
  unfold writeHead at h
  split at h
  · cases h
  · split at h
    · cases h
    · injection h with h
      subst h
      have hte : ∀ x ∈ trimEnd (tsOf f), x.length ≤ 100000 := by
        intro x hx
        rw [trimEnd_take] at hx
        exact ts_each f 100000 hl x (List.mem_of_mem_take hx)
      have hsj := sepJoin_len d.field 100000 ((msh ++ ([[d.field], d.others] : List Bytes).flatten) :: trimEnd (tsOf f)) (by
        intro x hx
        rcases List.mem_cons.1 hx with rfl | hx
        · simp [msh, Delims.others]
        · exact hte x hx)
      have htl := trimEnd_len (tsOf f)
      simp only [List.length_cons, List.length_nil] at hsj htl
      have : ((trimEnd (tsOf f)).length + 1) * (100000 + 1) ≤ 12 * 100001 := Nat.mul_le_mul (by omega) (Nat.le_refl _)
      unfold make
      rw [if_pos rfl]
      exact Nat.le_trans hsj (by omega)

theorem writeHead_err (h : Head) (n : Int) (he : writeHead h = .error n) : n = 11 ∨ n = 10 := by
  unfold writeHead at he
  split at he
  · injection he with he; exact .inl he.symm
  · split at he
    · injection he with he; exact .inr he.symm
    · cases he

/-- How an answer's building ends. -/
def endBuild (w : World) (w' : World) (e : Ending) : Except Int Bytes → Prop
  | .ok b => ∃ u, e = .returned (.tuple #[u, .int .i64 0]) ∧ New w.heap.size w' u b
  | .error n => e = .returned (.tuple #[.slice none 0 0, .int .i64 n])

/-- A head's cells with four texts of one's own in front. -/
abbrev headC4 (d : Delims) (x0 x1 x2 x3 : Bytes) (f : Nat → Bytes) : Array Value := #[.int .u8 (d.field.toNat : Int), .int .u8 (d.part.toNat : Int), .int .u8 (d.again.toNat : Int), .int .u8 (d.esc.toNat : Int), .int .u8 (d.sub.toNat : Int),
  .string (ofL x0), .string (ofL x1), .string (ofL x2), .string (ofL x3), .string (ofL (f 4)), .string (ofL (f 5)), .string (ofL (f 6)), .string (ofL (f 7)), .string (ofL (f 8)), .string (ofL (f 9))]

set_option maxHeartbeats 2000000 in
theorem build_calls {w : World} (d : Delims) (f : Nat → Bytes) (c : Bytes) (hg : Glob w) (hl : ∀ i < 10, (f i).length ≤ 100000) (hk : known c = true) (hc : c.length ≤ 100) :
    Calls Tryz.prog 80 #[hv d f, .string (ofL c)] w fun e w' => endBuild w w' e (ackBuild (headOf d f) c) ∧ Chg No w w' := by
  have hab : ackBuild (headOf d f) c = match writeHead (headOf d (ackF f)) with
      | .error e => .error e
      | .ok s => .ok (join [s, make d [77, 83, 65] [c, f 7]]) := by
    unfold ackBuild
    rw [hk]
    rfl
  rw [hab]
  clear hab
  unfold hv
  obtain ⟨W, hW⟩ : ∃ W, w.alloc (.cells (headCells d f) 112) = W := ⟨_, rfl⟩
  have hcW : Chg No w W := by rw [← hW]; exact (Chg.refl No w).alloc _
  have hb : W.heap[w.heap.size]? = some (.cells (headCells d f) 112 (0, 0)) := by rw [← hW]; exact heap_alloc_new _ _
  have HK := Lib.hid (known_calls (hg.no hcW) c)
  rw [hk] at HK
  have HCW := Lib.hid hcW
  have HB := Lib.hid hb
  have hal : ∀ i < 10, (ackF f i).length ≤ 100000 := ten (p := fun i => (ackF f i).length ≤ 100000) (hl 2 (by decide)) (hl 3 (by decide)) (hl 0 (by decide)) (hl 1 (by decide)) (hl 4 (by decide)) (by simp) (by simp) (hl 7 (by decide)) (hl 8 (by decide)) (hl 9 (by decide))
  have HMW := Lib.hid (fun W => mwrite_calls (w := W) d (ackF f) hal)
  have HLEN := Lib.hid (writeHead_len d (ackF f) hal)
  have HL7 := Lib.hid (hl 7 (by decide))
  have HERR := Lib.hid (writeHead_err (headOf d (ackF f)))
  clear hcW hb hl hal
  generalize writeHead (headOf d (ackF f)) = res at HMW HLEN HERR ⊢
  unfold headCells at hW ⊢
  go_enter Tryz.func80, Tryz.ntmps80
  go_wp2_with fail
  refine HK.out.mono ?_
  rintro e w1 ⟨rfl, rfl⟩
  go_wp2_with (first
    | (refine wpList_load_row rfl 112 _ rfl w.heap.size rfl 112 _ (0, 0) _ HB.out Tryz.underlying112 rfl (by kernel_rfl) ?_))
  obtain ⟨W1, hW1⟩ : ∃ W1, W.alloc (.cells (headCells d f) 112) = W1 := ⟨_, rfl⟩
  have hc1 : Chg No W W1 := by rw [← hW1]; exact (Chg.refl No W).alloc _
  have ha1 : W1.heap[W.heap.size]? = some (.cells (headCells d f) 112 (0, 0)) := by rw [← hW1]; exact heap_alloc_new _ _
  have hb1 := hc1.heap HB.out (fun x => x)
  have hlt := lt_of_heap HB.out
  unfold headCells at hW1
  rw [hW1]
  clear hW hW1
  generalize W.heap.size = ab at *
  have p5 := cell_blk hb1 5
  have p6 := cell_blk hb1 6
  have p7 := cell_blk hb1 7
  have p8 := cell_blk hb1 8
  have a5 := cell_blk ha1 5
  have a6 := cell_blk ha1 6
  have a7 := cell_blk ha1 7
  have a8 := cell_blk ha1 8
  have f5 := free_blk ha1 5
  have f6 := free_blk ha1 6
  have f7 := free_blk ha1 7
  have f8 := free_blk ha1 8
  simp only [headCells, List.getElem?_toArray, List.getElem?_cons_succ, List.getElem?_cons_zero] at p5 p6 p7 p8 a5 a6 a7 a8
  have HC1 := Lib.hid (HCW.out.trans hc1)
  have HA1 := Lib.hid ha1
  have HB1 := Lib.hid hb1
  have hne : ab ≠ w.heap.size := by omega
  have hne2 : w.heap.size ≠ ab := by omega
  clear hc1 ha1 hb1 HB HCW HK
  go_region
  go_wp2_with fail
  obtain ⟨W2, hW2⟩ : ∃ W2, ((W1.setCell ⟨ab, 5, none⟩ (.string (ofL (f 2)))).setCell ⟨ab, 7, none⟩ (.string (ofL (f 0)))).drew = W2 := ⟨_, rfl⟩
  have ha2 : W2.heap[ab]? = some (.cells (headC4 d (f 2) (f 1) (f 0) (f 3) f) 112 (0, 0)) := by
    rw [← hW2]
    show ((W1.setCell _ _).setCell _ _).heap[ab]? = _
    rw [set_blk (set_blk HA1.out 5 _) 7 _]
    simp [headCells]
  have hb2 : W2.heap[w.heap.size]? = some (.cells (headCells d f) 112 (0, 0)) := by
    rw [← hW2]
    exact set_other (set_other HB1.out _ _ hne2) _ _ hne2
  have hc2 : Chg No w W2 := by rw [← hW2]; exact ((HC1.out.setCell (.inr (Nat.le_of_lt hlt)) _).setCell (.inr (Nat.le_of_lt hlt)) _).drew
  rw [hW2]
  clear hW2 p5 p6 p7 p8 a5 a6 a7 a8 f5 f6 f7 f8
  have p6 := cell_blk hb2 6
  have p8 := cell_blk hb2 8
  have a6 := cell_blk ha2 6
  have a8 := cell_blk ha2 8
  have f6 := free_blk ha2 6
  have f8 := free_blk ha2 8
  simp only [headCells, headC4, List.getElem?_toArray, List.getElem?_cons_succ, List.getElem?_cons_zero] at p6 p8 a6 a8
  have HC2 := Lib.hid hc2
  have HA2 := Lib.hid ha2
  have HB2 := Lib.hid hb2
  clear hc2 ha2 hb2 HB1 HA1 HC1
  go_region
  obtain ⟨W3, hW3⟩ : ∃ W3, ((W2.setCell ⟨ab, 6, none⟩ (.string (ofL (f 3)))).setCell ⟨ab, 8, none⟩ (.string (ofL (f 1)))).drew = W3 := ⟨_, rfl⟩
  have ha3 : W3.heap[ab]? = some (.cells (headC4 d (f 2) (f 3) (f 0) (f 1) f) 112 (0, 0)) := by
    rw [← hW3]
    show ((W2.setCell _ _).setCell _ _).heap[ab]? = _
    rw [set_blk (set_blk HA2.out 6 _) 8 _]
    simp [headC4]
  have hb3 : W3.heap[w.heap.size]? = some (.cells (headCells d f) 112 (0, 0)) := by
    rw [← hW3]
    exact set_other (set_other HB2.out _ _ hne2) _ _ hne2
  have hc3 : Chg No w W3 := by rw [← hW3]; exact ((HC2.out.setCell (.inr (Nat.le_of_lt hlt)) _).setCell (.inr (Nat.le_of_lt hlt)) _).drew
  rw [hW3]
  clear hW3 p6 p8 a6 a8 f6 f8
  have a10 := cell_blk ha3 10
  have a11 := cell_blk ha3 11
  have f10 := free_blk ha3 10
  have f11 := free_blk ha3 11
  simp only [headC4, List.getElem?_toArray, List.getElem?_cons_succ, List.getElem?_cons_zero] at a10 a11
  obtain ⟨W4, hW4⟩ : ∃ W4, (W3.setCell ⟨ab, 10, none⟩ (.string ⟨#[]⟩)).setCell ⟨ab, 11, none⟩ (.string ⟨#[65, 67, 75]⟩) = W4 := ⟨_, rfl⟩
  have ha4 : W4.heap[ab]? = some (.cells (headCells d (ackF f)) 112 (0, 0)) := by
    rw [← hW4, set_blk (set_blk ha3 10 _) 11 _]
    simp [headC4]
    exact ⟨rfl, rfl⟩
  have hb4 : W4.heap[w.heap.size]? = some (.cells (headCells d f) 112 (0, 0)) := by
    rw [← hW4]
    exact set_other (set_other hb3 _ _ hne2) _ _ hne2
  have hc4 : Chg No w W4 := by rw [← hW4]; exact (hc3.setCell (.inr (Nat.le_of_lt hlt)) _).setCell (.inr (Nat.le_of_lt hlt)) _
  have HC4 := Lib.hid hc4
  have HA4 := Lib.hid ha4
  have HB4 := Lib.hid hb4
  clear hc4 ha4 hb4 hc3 hb3 ha3 HC2 HA2 HB2
  go_wp2_with (first
    | (refine wpList_load_row rfl 112 _ rfl ab rfl 112 _ (0, 0) _ HA4.out Tryz.underlying112 rfl (by kernel_rfl) ?_))
  refine (HMW.out W4).mono ?_
  rintro e w5 ⟨rfl, hc5⟩
  have HC5 := Lib.hid (HC4.out.trans hc5)
  have HB5 := Lib.hid (hc5.heap HB4.out (fun x => x))
  clear hc5 HB4 HC4 a10 a11 f10 f11
  cases res with
  | error n =>
    have hn : (n != 0) = true := by rcases HERR.out n rfl with rfl | rfl <;> rfl
    unfold endText
    go_wp2_with fail
    go_ret2
    exact ⟨rfl, HC5.out⟩
  | ok s =>
    have hsl := HLEN.out s rfl
    have c0 := cell_blk HB5.out 0
    have c1 := cell_blk HB5.out 1
    have c2 := cell_blk HB5.out 2
    have c3 := cell_blk HB5.out 3
    have c4 := cell_blk HB5.out 4
    have c12 := cell_blk HB5.out 12
    simp only [headCells, List.getElem?_toArray, List.getElem?_cons_succ, List.getElem?_cons_zero] at c0 c1 c2 c3 c4 c12
    unfold endText
    have hm3 : (make d [77, 83, 65] [c, f 7]).length ≤ 400000 := by
      have h1 := sepJoin_len d.field 100000 [[77, 83, 65], c, f 7] (by
        intro x hx
        simp only [List.mem_cons, List.not_mem_nil, or_false] at hx
        rcases hx with rfl | rfl | rfl
        · simp
        · omega
        · exact HL7.out)
      unfold make
      rw [if_neg (by simp [msh])]
      exact Nat.le_trans h1 (by simp)
    have hmm : make d [77, 83, 65] [c, f 7] = sepJoin d.field [[77, 83, 65], c, f 7] := by unfold make; rw [if_neg (by simp [msh])]
    have HMK := Lib.hid (fun w1 v1 h hs => make_other (w := w1) (v := v1) d [77, 83, 65] [c, f 7] h hs (by simp) (by rw [← hmm]; omega) (by simp [msh]))
    obtain ⟨m, hm⟩ : ∃ m, make d [77, 83, 65] [c, f 7] = m := ⟨_, rfl⟩
    rw [hm] at HMK hm3
    have hjl : (join [s, m]).length ≤ 100000000 := by simp [join]; omega
    have HSJ := Lib.hid (fun w1 v1 h => segJoin_calls (w := w1) (v := v1) [s, m] h (by simp) hjl)
    have HM := Lib.hid hm
    have HJL := Lib.hid hjl
    unfold dv at HMK
    have hlit := Ss.lit w5 [c, f 7] #[.string (ofL c), .string (ofL (f 7))] rfl
    have hlits : Src (w5.alloc (.cells #[.string (ofL c), .string (ofL (f 7))] 9)) (.slice (some ⟨w5.heap.size, 0, none⟩) 2 2) (strs [c, f 7]) := by
      obtain ⟨q, cap, hv, h1, _⟩ := hlit.src
      simp only [Value.slice.injEq] at hv
      exact h1 _ hv.1.symm
    have HLIT := Lib.hid hlit
    have HLITS := Lib.hid hlits
    clear hlit hlits hm hmm hm3 hjl hsl
    go_wp2_with fail
    refine (HMK.out _ _ HLIT.out HLITS.out).mono ?_
    rintro e w6 ⟨rfl, hc6⟩
    have HC6 := Lib.hid ((HC5.out.alloc _).trans hc6)
    have HL2 := Lib.hid (Ss.lit w6 [s, m] #[.string (ofL s), .string (ofL m)] rfl)
    clear hc6 c0 c1 c2 c3 c4 c12
    go_wp2_with fail
    refine (HSJ.out _ _ HL2.out).mono ?_
    rintro e w7 ⟨u, rfl, hown, hc7⟩
    have HC7 := Lib.hid ((HC6.out.alloc _).trans hc7)
    have hnew := New.of_owns hown (by have := HJL.out; omega)
    have HNEW : Hid (New w.heap.size w7 u (join [s, m])) := Lib.hid ⟨hnew.own, hnew.bs, fun k hk => Nat.le_trans (HC6.out.alloc _).size (hnew.new k hk)⟩
    clear hown hnew hc7
    go_wp2_with fail
    go_ret2
    refine ⟨⟨u, rfl, ?_⟩, HC7.out⟩
    rw [HM.out]
    exact HNEW.out
end Go.Proofs.YtgpmnicmgehmbaaGreatDoor
