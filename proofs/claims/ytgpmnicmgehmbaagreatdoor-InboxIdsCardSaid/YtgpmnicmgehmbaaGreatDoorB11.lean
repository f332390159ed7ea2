/- An inbox: a message that is stored, walked.
   An inbox: Feed.
   An inbox: New, the nil receivers, Seen, Kept, Held, Reset. -/
import Derived.Test.YtgpmnicmgehmbaaGreatDoorB10
import Derived.Test.YtgpmnicmgehmbaaGreatDoorB06

namespace Go.Proofs.YtgpmnicmgehmbaaGreatDoor
open Go.RowKit Lamp Go.Conc
set_option maxRecDepth 100000
set_option maxHeartbeats 400000

section
variable {w : World} {px pdf pl pd pc cap sn rc : Nat} {s : Lamp.Sys} {F G : List Nat} {rows : List (Value × Bytes)} {vnow : Value}

theorem one_lost {bx n : Nat} {D : Disk} {g' : Log} {o : Int} (vm : Value) (m : Bytes) (h : InIn w px pdf pl pd pc cap sn rc s F rows vnow) (hG : G = inBlocks px pdf pc vnow F ++ rowBlocks rows) (hbx : w.heap[bx]? = some (.cells #[.pointer (some ⟨px, 0, none⟩)] 26 (0, 0))) (hbG : bx ∉ G)
    (hg : Glob w) (hgG : ∀ k ∈ G, 6 ≤ k) (hm : Bs w vm m) (hoff : Off (In G) vm) (hml : m.length ≤ 65536) (hfn : s.Fine n) (hn : n ≤ 1000000) (hst : Lamp.stored m = true) (hD : Log.add s.disk s.log m = (D, g', Res.lost o)) :
    Calls Tryz.prog 44 #[vm, .pointer (some ⟨bx, 0, none⟩)] w fun e w' => e = crashed o ∧ InTo w w' px pl pd G { s with disk := D, log := g' } := by
  have hb0 : bx < w.heap.size := lt_of_heap hbx
  have hbpx : bx ≠ px := by
    rintro rfl
    exact hbG (by rw [hG]; exact List.mem_append.2 (.inl (mem_inBlocks.2 (.inl rfl))))
  have hoF : Off (In F) vm := fun k hk hF => hoff k hk (by show k ∈ G; rw [hG]; exact List.mem_append.2 (.inl (mem_inBlocks.2 (.inr (.inr (.inr (.inr hF)))))))
  have HST := Lib.hid (stored_calls m hm hg (by omega))
  rw [hst] at HST
  have HADD : Hid (∀ w1, LogAt w1 pl pd s.disk s.log F → Bs w1 vm m → Calls Tryz.prog 46 #[.pointer (some ⟨pl, 0, none⟩), vm] w1 fun e w' => e = crashed o ∧ LogTo w1 w' pl pd F D g') := by
    intro w1 h1 h2
    refine (add_calls vm m h1 h2 hoF (hfn.log.sound.mono (by omega)) hfn.log.name (by have := hfn.log.nlen; omega) hfn.log.good0 (by have := hfn.log.good1; omega) (by have := hfn.log.ll; omega)).mono ?_
    rintro e w' ⟨r, rfl, h1, h2⟩
    rw [hD] at h1 h2
    exact ⟨h1, h2⟩
  have HIN := Lib.hid h
  have HBM := Lib.hid hm
  have HOFF := Lib.hid hoff
  have HGL := Lib.hid hg
  have HBX := Lib.hid hbx
  have HFN := Lib.hid hfn
  have HGE := Lib.hid hG
  have hge0 : inBlocks px pdf pc vnow F ++ rowBlocks rows = G := hG.symm
  have HBG := Lib.hid hbG
  have HGG := Lib.hid hgG
  have hs0 := hfn.seen0
  have hs1 : s.box.seen ≤ 1000000 := Int.le_trans hfn.seen1 (by omega)
  have hk0 := hfn.kept0
  have hk1 : s.box.kept ≤ 1000000 := Int.le_trans hfn.kept1 (by omega)
  have HK := Lib.hid (And.intro hk0 hk1)
  have HS := Lib.hid (And.intro hs0 hs1)
  have hle : inBlocks px pdf pc vnow F ++ rowBlocks rows = G := hG.symm
  have HFG : Hid (∀ k ∈ F, k ∈ G) := fun k hk => by rw [hG]; exact List.mem_append.2 (.inl (mem_inBlocks.2 (.inr (.inr (.inr (.inr hk))))))
  have HPG : Hid (px ∈ G) := by show px ∈ G; rw [hG]; exact List.mem_append.2 (.inl (mem_inBlocks.2 (.inl rfl)))
  have HCG : Hid (pc ∈ G) := by show pc ∈ G; rw [hG]; exact List.mem_append.2 (.inl (mem_inBlocks.2 (.inr (.inr (.inl rfl)))))
  clear h hm hg hbx hfn hG hoff hgG hge0 hle hbG hst hoF hD hb0 hs0 hs1 hk0 hk1
  have c0 := cell_blk HBX.out 0
  simp only [List.getElem?_toArray, List.getElem?_cons_zero] at c0
  obtain ⟨q, cp, rfl, _, _, _, _⟩ := HBM.out
  go_enter Tryz.func44, Tryz.ntmps44
  go_wp2_with fail
  refine HST.out.mono ?_
  rintro e w1 ⟨rfl, hc1⟩
  have hin1 := HIN.out.kept hc1 (fun _ _ x => x)
  have hbx1 := hc1.heap HBX.out (fun x => x)
  have HC1 := Lib.hid hc1
  have HIN1 := Lib.hid hin1
  have HBX1 := Lib.hid hbx1
  clear c0
  have c0 := cell_blk hbx1 0
  have c1 := cell_blk hin1.blk 1
  simp only [List.getElem?_toArray, List.getElem?_cons_succ, List.getElem?_cons_zero] at c0 c1
  clear hc1 hin1 hbx1 HST
  go_wp2_with fail
  refine (HADD.out _ HIN1.out.log (HBM.out.chg HC1.out (fun _ _ x => x))).mono ?_
  rintro e w2 ⟨rfl, hl⟩
  obtain ⟨F2, hin2, hc2, hF2⟩ := HIN1.out.beneath hl
  have HIN2 := Lib.hid hin2
  have HC2 : Hid (Chg (In G) w w2) := (HC1.out.mono (fun _ _ x => x.elim)).then hc2 (fun i hi => .inl (HFG.out i hi))
  have HF2 : Hid (∀ k ∈ F2, k ∈ F ∨ w.heap.size ≤ k) := fun k hk => (hF2 k hk).imp id (fun x => Nat.le_trans HC1.out.size x)
  have hbx2 := HC2.out.heap HBX.out HBG.out
  have HBX2 := Lib.hid hbx2
  clear c0 c1 hl hin2 hc2 hF2 HADD
  refine ⟨rfl, ?_⟩
  exact ⟨rfl, InIn.to HIN2.out HGE.out HC2.out HF2.out (.inl rfl) (fun r hr => .inl hr)⟩

theorem one_kept {bx n : Nat} {D : Disk} {g' : Log} (vm : Value) (m : Bytes) (h : InIn w px pdf pl pd pc cap sn rc s F rows vnow) (hG : G = inBlocks px pdf pc vnow F ++ rowBlocks rows) (hbx : w.heap[bx]? = some (.cells #[.pointer (some ⟨px, 0, none⟩)] 26 (0, 0))) (hbG : bx ∉ G)
    (hg : Glob w) (hgG : ∀ k ∈ G, 6 ≤ k) (hm : Bs w vm m) (hoff : Off (In G) vm) (hml : m.length ≤ 65536) (hfn : s.Fine n) (hn : n ≤ 1000000) (hst : Lamp.stored m = true) (hD : Log.add s.disk s.log m = (D, g', Res.ok 0)) :
    Calls Tryz.prog 44 #[vm, .pointer (some ⟨bx, 0, none⟩)] w fun e w' => e = .returned (.tuple #[]) ∧ InTo w w' px pl pd G (replied { s with disk := D, log := g', box := { s.box with kept := s.box.kept + 1 } } (reply m true)) := by
  have hb0 : bx < w.heap.size := lt_of_heap hbx
  have hbpx : bx ≠ px := by
    rintro rfl
    exact hbG (by rw [hG]; exact List.mem_append.2 (.inl (mem_inBlocks.2 (.inl rfl))))
  have hoF : Off (In F) vm := fun k hk hF => hoff k hk (by show k ∈ G; rw [hG]; exact List.mem_append.2 (.inl (mem_inBlocks.2 (.inr (.inr (.inr (.inr hF)))))))
  have HST := Lib.hid (stored_calls m hm hg (by omega))
  rw [hst] at HST
  have HADD : Hid (∀ w1, LogAt w1 pl pd s.disk s.log F → Bs w1 vm m → Calls Tryz.prog 46 #[.pointer (some ⟨pl, 0, none⟩), vm] w1 fun e w' => e = .returned (.int .i64 0) ∧ LogTo w1 w' pl pd F D g') := by
    intro w1 h1 h2
    refine (add_calls vm m h1 h2 hoF (hfn.log.sound.mono (by omega)) hfn.log.name (by have := hfn.log.nlen; omega) hfn.log.good0 (by have := hfn.log.good1; omega) (by have := hfn.log.ll; omega)).mono ?_
    rintro e w' ⟨r, rfl, h1, h2⟩
    rw [hD] at h1 h2
    exact ⟨h1, h2⟩
  have HRP := Lib.hid (fun w1 h1 h2 => reply_calls (w := w1) (v := vm) m true h1 h2 (by omega))
  have HIN := Lib.hid h
  have HBM := Lib.hid hm
  have HOFF := Lib.hid hoff
  have HGL := Lib.hid hg
  have HBX := Lib.hid hbx
  have HFN := Lib.hid hfn
  have HGE := Lib.hid hG
  have hge0 : inBlocks px pdf pc vnow F ++ rowBlocks rows = G := hG.symm
  have HBG := Lib.hid hbG
  have HGG := Lib.hid hgG
  have hs0 := hfn.seen0
  have hs1 : s.box.seen ≤ 1000000 := Int.le_trans hfn.seen1 (by omega)
  have hk0 := hfn.kept0
  have hk1 : s.box.kept ≤ 1000000 := Int.le_trans hfn.kept1 (by omega)
  have HK := Lib.hid (And.intro hk0 hk1)
  have HS := Lib.hid (And.intro hs0 hs1)
  have hle : inBlocks px pdf pc vnow F ++ rowBlocks rows = G := hG.symm
  have HFG : Hid (∀ k ∈ F, k ∈ G) := fun k hk => by rw [hG]; exact List.mem_append.2 (.inl (mem_inBlocks.2 (.inr (.inr (.inr (.inr hk))))))
  have HPG : Hid (px ∈ G) := by show px ∈ G; rw [hG]; exact List.mem_append.2 (.inl (mem_inBlocks.2 (.inl rfl)))
  have HCG : Hid (pc ∈ G) := by show pc ∈ G; rw [hG]; exact List.mem_append.2 (.inl (mem_inBlocks.2 (.inr (.inr (.inl rfl)))))
  clear h hm hg hbx hfn hG hoff hgG hge0 hle hbG hst hoF hD hb0 hs0 hs1 hk0 hk1
  have c0 := cell_blk HBX.out 0
  simp only [List.getElem?_toArray, List.getElem?_cons_zero] at c0
  obtain ⟨q, cp, rfl, _, _, _, _⟩ := HBM.out
  generalize reply m true = rp at HRP ⊢
  go_enter Tryz.func44, Tryz.ntmps44
  go_wp2_with fail
  refine HST.out.mono ?_
  rintro e w1 ⟨rfl, hc1⟩
  have hin1 := HIN.out.kept hc1 (fun _ _ x => x)
  have hbx1 := hc1.heap HBX.out (fun x => x)
  have HC1 := Lib.hid hc1
  have HIN1 := Lib.hid hin1
  have HBX1 := Lib.hid hbx1
  clear c0
  have c0 := cell_blk hbx1 0
  have c1 := cell_blk hin1.blk 1
  simp only [List.getElem?_toArray, List.getElem?_cons_succ, List.getElem?_cons_zero] at c0 c1
  clear hc1 hin1 hbx1 HST
  go_wp2_with fail
  refine (HADD.out _ HIN1.out.log (HBM.out.chg HC1.out (fun _ _ x => x))).mono ?_
  rintro e w2 ⟨rfl, hl⟩
  obtain ⟨F2, hin2, hc2, hF2⟩ := HIN1.out.beneath hl
  have HIN2 := Lib.hid hin2
  have HC2 : Hid (Chg (In G) w w2) := (HC1.out.mono (fun _ _ x => x.elim)).then hc2 (fun i hi => .inl (HFG.out i hi))
  have HF2 : Hid (∀ k ∈ F2, k ∈ F ∨ w.heap.size ≤ k) := fun k hk => (hF2 k hk).imp id (fun x => Nat.le_trans HC1.out.size x)
  have hbx2 := HC2.out.heap HBX.out HBG.out
  have HBX2 := Lib.hid hbx2
  clear c0 c1 hl hin2 hc2 hF2 HADD
  have c0 := cell_blk hbx2 0
  have c4 := cell_blk HIN2.out.blk 4
  have f4 := free_blk HIN2.out.blk 4
  simp only [List.getElem?_toArray, List.getElem?_cons_succ, List.getElem?_cons_zero] at c0 c4
  obtain ⟨hk0, hk1⟩ := HK.out
  obtain ⟨Wk, hWk⟩ : ∃ Wk, w2.setCell ⟨px, 4, none⟩ (.int .i64 (s.box.kept + 1)) = Wk := ⟨_, rfl⟩
  have hbk : Wk.heap[px]? = some (boxObj pdf pl pc s.box.seen (s.box.kept + 1)) := by
    rw [← hWk, set_blk HIN2.out.blk 4]; simp [boxObj]
  have hck : Chg (In [px]) w2 Wk := by rw [← hWk]; exact (Chg.refl _ w2).setCell (.inl (by simp)) _
  have HCK : Hid (Chg (In G) w Wk) := HC2.out.then hck (by intro i hi; simp at hi; subst hi; exact .inl HPG.out)
  have HINK := Lib.hid (HIN2.out.count hbk hck (Int.le_refl _))
  clear hbk hck hbx2
  go_upto_region 3 with (fail)
  clear hWk c0 c4 f4 hk0 hk1
  go_wp2_with fail
  refine (HRP.out _ (HBM.out.chg HCK.out HOFF.out) (HGL.out.kept HCK.out (fun k hk hG => by have := HGG.out k hG; omega))).mono ?_
  rintro e w4 ⟨hend, hc4⟩
  have hin4 := HINK.out.kept hc4 (fun _ _ x => x)
  have HC4 : Hid (Chg (In G) w w4) := HCK.out.trans (hc4.mono (fun _ _ x => x.elim))
  have HZ4 : Hid (w.heap.size ≤ Wk.heap.size) := HCK.out.size
  have HIN4 := Lib.hid hin4
  clear hc4 HRP hin4
  cases rp with
  | none =>
    obtain rfl : e = _ := hend
    go_wp2_with fail
    go_end0
    refine ⟨rfl, ?_⟩
    exact InIn.to HIN4.out HGE.out HC4.out HF2.out (.inl rfl) (fun r hr => .inl hr)
  | some r =>
    obtain ⟨q2, n2, c2, rfl, hnew⟩ := hend
    have hin2 := HIN4.out
    have hbx2 := HC4.out.heap HBX.out HBG.out
    have c0 := cell_blk hbx2 0
    have c3 := cell_blk hin2.blk 3
    have f3 := free_blk hin2.blk 3
    simp only [List.getElem?_toArray, List.getElem?_cons_succ, List.getElem?_cons_zero] at c0 c3
    obtain ⟨hs0, hs1⟩ := HS.out
    have HNEW := Lib.hid hnew
    clear hnew hin2
    obtain ⟨W3, hW3⟩ : ∃ W3, w4.setCell ⟨px, 3, none⟩ (.int .i64 (s.box.seen + 1)) = W3 := ⟨_, rfl⟩
    have hb3 : W3.heap[px]? = some (boxObj pdf pl pc (s.box.seen + 1) (s.box.kept + 1)) := by
      rw [← hW3, set_blk HIN4.out.blk 3]; simp [boxObj]
    have hbx3 : W3.heap[bx]? = some (.cells #[.pointer (some ⟨px, 0, none⟩)] 26 (0, 0)) := by rw [← hW3]; exact set_other hbx2 _ _ hbpx
    have hc3 : Chg (In [px]) w4 W3 := by rw [← hW3]; exact (Chg.refl _ w4).setCell (.inl (by simp)) _
    have c03 := cell_blk hbx3 0
    simp only [List.getElem?_toArray, List.getElem?_cons_zero] at c03
    have hin3 := HIN4.out.count hb3 hc3 (by show s.box.seen ≤ s.box.seen + 1; omega)
    have hnb : ∀ k, (Value.slice q2 n2 c2).ownBlock = some k → Wk.heap.size ≤ k := fun k hk => HNEW.out.new k hk
    have hnx : Off (In [px]) (Value.slice q2 n2 c2) := fun k hk hp => by
      have h1 := hnb k hk
      have h2 := HINK.out.lt px (List.mem_append.2 (.inl (mem_inBlocks.2 (.inl rfl))))
      simp at hp
      omega
    have HAN := Lib.hid (answer_calls (w := W3) (.slice q2 n2 c2) hin3.blk hin3.ch (by simpa using hin3.room) hin3.cap1 (by have h1 := HIN4.out.cap2; replace h1 : (cap : Int) ≤ 2 * s.box.seen + 1 := h1; omega) hin3.n2)
    have hbs3 := HNEW.out.bs.chg hc3 hnx
    have hof3 : ∀ k, (Value.slice q2 n2 c2).ownBlock = some k → k < W3.heap.size ∧ k ∉ inBlocks px pdf pc vnow F2 := fun k hk => by
      refine ⟨Nat.lt_of_lt_of_le (HNEW.out.own.lt hk) hc3.size, fun hk2 => ?_⟩
      have h1 := hnb k hk
      have h2 := HINK.out.lt k (List.mem_append.2 (.inl hk2))
      omega
    have HIN3 := Lib.hid hin3
    have HB3 := Lib.hid hbs3
    have HO3 := Lib.hid hof3
    have HC3 := Lib.hid hc3
    have HNB := Lib.hid hnb
    clear hb3 hbx3 hc3 hin3 hbs3 hof3 hnx hnb hbx2
    go_upto_region 6 with (fail)
    clear hW3 c0 c3 f3
    go_wp2_with fail
    refine HAN.out.mono ?_
    rintro e w5 ⟨rfl, ha⟩
    have HA := Lib.hid ha
    clear ha
    go_wp2_with fail
    go_end0
    refine ⟨rfl, ?_⟩
    obtain ⟨pc', cap', sn', rc', i1, i2, i3⟩ := HIN3.out.answered HB3.out HO3.out (by show (rows.length : Int) + 1 ≤ s.box.seen + 1; have h1 := HIN.out.few; omega) HA.out
    have hcw3 : Chg (In G) w W3 := HC4.out.then HC3.out (by intro i hi; simp at hi; subst hi; exact .inl HPG.out)
    refine InIn.to i1 HGE.out (hcw3.then i2 ?_) HF2.out (i3.imp id (fun x => Nat.le_trans hcw3.size x)) ?_
    · intro i hi
      simp at hi
      rcases hi with rfl | rfl
      · exact .inl HPG.out
      · exact .inl HCG.out
    · intro r0 hr0
      rcases List.mem_append.1 hr0 with x | x
      · exact .inl x
      · simp at x; subst x; exact .inr (fun k hk => Nat.le_trans HZ4.out (HNB.out k hk))

theorem one_unkept {bx n : Nat} {D : Disk} {g' : Log} {e0 : Int} (he : ¬ e0 = 0) (vm : Value) (m : Bytes) (h : InIn w px pdf pl pd pc cap sn rc s F rows vnow) (hG : G = inBlocks px pdf pc vnow F ++ rowBlocks rows) (hbx : w.heap[bx]? = some (.cells #[.pointer (some ⟨px, 0, none⟩)] 26 (0, 0))) (hbG : bx ∉ G)
    (hg : Glob w) (hgG : ∀ k ∈ G, 6 ≤ k) (hm : Bs w vm m) (hoff : Off (In G) vm) (hml : m.length ≤ 65536) (hfn : s.Fine n) (hn : n ≤ 1000000) (hst : Lamp.stored m = true) (hD : Log.add s.disk s.log m = (D, g', Res.ok e0)) :
    Calls Tryz.prog 44 #[vm, .pointer (some ⟨bx, 0, none⟩)] w fun e w' => e = .returned (.tuple #[]) ∧ InTo w w' px pl pd G (replied { s with disk := D, log := g' } (reply m false)) := by
  have hb0 : bx < w.heap.size := lt_of_heap hbx
  have hbpx : bx ≠ px := by
    rintro rfl
    exact hbG (by rw [hG]; exact List.mem_append.2 (.inl (mem_inBlocks.2 (.inl rfl))))
  have hoF : Off (In F) vm := fun k hk hF => hoff k hk (by show k ∈ G; rw [hG]; exact List.mem_append.2 (.inl (mem_inBlocks.2 (.inr (.inr (.inr (.inr hF)))))))
  have HST := Lib.hid (stored_calls m hm hg (by omega))
  rw [hst] at HST
  have HADD : Hid (∀ w1, LogAt w1 pl pd s.disk s.log F → Bs w1 vm m → Calls Tryz.prog 46 #[.pointer (some ⟨pl, 0, none⟩), vm] w1 fun e w' => e = .returned (.int .i64 e0) ∧ LogTo w1 w' pl pd F D g') := by
    intro w1 h1 h2
    refine (add_calls vm m h1 h2 hoF (hfn.log.sound.mono (by omega)) hfn.log.name (by have := hfn.log.nlen; omega) hfn.log.good0 (by have := hfn.log.good1; omega) (by have := hfn.log.ll; omega)).mono ?_
    rintro e w' ⟨r, rfl, h1, h2⟩
    rw [hD] at h1 h2
    exact ⟨h1, h2⟩
  have HRP := Lib.hid (fun w1 h1 h2 => reply_calls (w := w1) (v := vm) m false h1 h2 (by omega))
  have HIN := Lib.hid h
  have HBM := Lib.hid hm
  have HOFF := Lib.hid hoff
  have HGL := Lib.hid hg
  have HBX := Lib.hid hbx
  have HFN := Lib.hid hfn
  have HGE := Lib.hid hG
  have hge0 : inBlocks px pdf pc vnow F ++ rowBlocks rows = G := hG.symm
  have HBG := Lib.hid hbG
  have HGG := Lib.hid hgG
  have hs0 := hfn.seen0
  have hs1 : s.box.seen ≤ 1000000 := Int.le_trans hfn.seen1 (by omega)
  have hk0 := hfn.kept0
  have hk1 : s.box.kept ≤ 1000000 := Int.le_trans hfn.kept1 (by omega)
  have HK := Lib.hid (And.intro hk0 hk1)
  have HS := Lib.hid (And.intro hs0 hs1)
  have hle : inBlocks px pdf pc vnow F ++ rowBlocks rows = G := hG.symm
  have HFG : Hid (∀ k ∈ F, k ∈ G) := fun k hk => by rw [hG]; exact List.mem_append.2 (.inl (mem_inBlocks.2 (.inr (.inr (.inr (.inr hk))))))
  have HPG : Hid (px ∈ G) := by show px ∈ G; rw [hG]; exact List.mem_append.2 (.inl (mem_inBlocks.2 (.inl rfl)))
  have HCG : Hid (pc ∈ G) := by show pc ∈ G; rw [hG]; exact List.mem_append.2 (.inl (mem_inBlocks.2 (.inr (.inr (.inl rfl)))))
  clear h hm hg hbx hfn hG hoff hgG hge0 hle hbG hst hoF hD hb0 hs0 hs1 hk0 hk1
  have c0 := cell_blk HBX.out 0
  simp only [List.getElem?_toArray, List.getElem?_cons_zero] at c0
  obtain ⟨q, cp, rfl, _, _, _, _⟩ := HBM.out
  generalize reply m false = rp at HRP ⊢
  go_enter Tryz.func44, Tryz.ntmps44
  go_wp2_with fail
  refine HST.out.mono ?_
  rintro e w1 ⟨rfl, hc1⟩
  have hin1 := HIN.out.kept hc1 (fun _ _ x => x)
  have hbx1 := hc1.heap HBX.out (fun x => x)
  have HC1 := Lib.hid hc1
  have HIN1 := Lib.hid hin1
  have HBX1 := Lib.hid hbx1
  clear c0
  have c0 := cell_blk hbx1 0
  have c1 := cell_blk hin1.blk 1
  simp only [List.getElem?_toArray, List.getElem?_cons_succ, List.getElem?_cons_zero] at c0 c1
  clear hc1 hin1 hbx1 HST
  go_wp2_with fail
  refine (HADD.out _ HIN1.out.log (HBM.out.chg HC1.out (fun _ _ x => x))).mono ?_
  rintro e w2 ⟨rfl, hl⟩
  obtain ⟨F2, hin2, hc2, hF2⟩ := HIN1.out.beneath hl
  have HIN2 := Lib.hid hin2
  have HC2 : Hid (Chg (In G) w w2) := (HC1.out.mono (fun _ _ x => x.elim)).then hc2 (fun i hi => .inl (HFG.out i hi))
  have HF2 : Hid (∀ k ∈ F2, k ∈ F ∨ w.heap.size ≤ k) := fun k hk => (hF2 k hk).imp id (fun x => Nat.le_trans HC1.out.size x)
  have hbx2 := HC2.out.heap HBX.out HBG.out
  have HBX2 := Lib.hid hbx2
  clear c0 c1 hl hin2 hc2 hF2 HADD
  clear hbx2
  go_wp2_with fail
  refine (HRP.out _ (HBM.out.chg HC2.out HOFF.out) (HGL.out.kept HC2.out (fun k hk hG => by have := HGG.out k hG; omega))).mono ?_
  rintro e w4 ⟨hend, hc4⟩
  have hin4 := HIN2.out.kept hc4 (fun _ _ x => x)
  have HC4 : Hid (Chg (In G) w w4) := HC2.out.trans (hc4.mono (fun _ _ x => x.elim))
  have HZ4 : Hid (w.heap.size ≤ w2.heap.size) := HC2.out.size
  have HIN4 := Lib.hid hin4
  clear hc4 HRP hin4
  cases rp with
  | none =>
    obtain rfl : e = _ := hend
    go_wp2_with fail
    go_end0
    refine ⟨rfl, ?_⟩
    exact InIn.to HIN4.out HGE.out HC4.out HF2.out (.inl rfl) (fun r hr => .inl hr)
  | some r =>
    obtain ⟨q2, n2, c2, rfl, hnew⟩ := hend
    have hin2 := HIN4.out
    have hbx2 := HC4.out.heap HBX.out HBG.out
    have c0 := cell_blk hbx2 0
    have c3 := cell_blk hin2.blk 3
    have f3 := free_blk hin2.blk 3
    simp only [List.getElem?_toArray, List.getElem?_cons_succ, List.getElem?_cons_zero] at c0 c3
    obtain ⟨hs0, hs1⟩ := HS.out
    have HNEW := Lib.hid hnew
    clear hnew hin2
    obtain ⟨W3, hW3⟩ : ∃ W3, w4.setCell ⟨px, 3, none⟩ (.int .i64 (s.box.seen + 1)) = W3 := ⟨_, rfl⟩
    have hb3 : W3.heap[px]? = some (boxObj pdf pl pc (s.box.seen + 1) (s.box.kept)) := by
      rw [← hW3, set_blk HIN4.out.blk 3]; simp [boxObj]
    have hbx3 : W3.heap[bx]? = some (.cells #[.pointer (some ⟨px, 0, none⟩)] 26 (0, 0)) := by rw [← hW3]; exact set_other hbx2 _ _ hbpx
    have hc3 : Chg (In [px]) w4 W3 := by rw [← hW3]; exact (Chg.refl _ w4).setCell (.inl (by simp)) _
    have c03 := cell_blk hbx3 0
    simp only [List.getElem?_toArray, List.getElem?_cons_zero] at c03
    have hin3 := HIN4.out.count hb3 hc3 (by show s.box.seen ≤ s.box.seen + 1; omega)
    have hnb : ∀ k, (Value.slice q2 n2 c2).ownBlock = some k → w2.heap.size ≤ k := fun k hk => HNEW.out.new k hk
    have hnx : Off (In [px]) (Value.slice q2 n2 c2) := fun k hk hp => by
      have h1 := hnb k hk
      have h2 := HIN2.out.lt px (List.mem_append.2 (.inl (mem_inBlocks.2 (.inl rfl))))
      simp at hp
      omega
    have HAN := Lib.hid (answer_calls (w := W3) (.slice q2 n2 c2) hin3.blk hin3.ch (by simpa using hin3.room) hin3.cap1 (by have h1 := HIN4.out.cap2; replace h1 : (cap : Int) ≤ 2 * s.box.seen + 1 := h1; omega) hin3.n2)
    have hbs3 := HNEW.out.bs.chg hc3 hnx
    have hof3 : ∀ k, (Value.slice q2 n2 c2).ownBlock = some k → k < W3.heap.size ∧ k ∉ inBlocks px pdf pc vnow F2 := fun k hk => by
      refine ⟨Nat.lt_of_lt_of_le (HNEW.out.own.lt hk) hc3.size, fun hk2 => ?_⟩
      have h1 := hnb k hk
      have h2 := HIN2.out.lt k (List.mem_append.2 (.inl hk2))
      omega
    have HIN3 := Lib.hid hin3
    have HB3 := Lib.hid hbs3
    have HO3 := Lib.hid hof3
    have HC3 := Lib.hid hc3
    have HNB := Lib.hid hnb
    clear hb3 hbx3 hc3 hin3 hbs3 hof3 hnx hnb hbx2
    go_upto_region 6 with (fail)
    clear hW3 c0 c3 f3
    go_wp2_with fail
    refine HAN.out.mono ?_
    rintro e w5 ⟨rfl, ha⟩
    have HA := Lib.hid ha
    clear ha
    go_wp2_with fail
    go_end0
    refine ⟨rfl, ?_⟩
    obtain ⟨pc', cap', sn', rc', i1, i2, i3⟩ := HIN3.out.answered HB3.out HO3.out (by show (rows.length : Int) + 1 ≤ s.box.seen + 1; have h1 := HIN.out.few; omega) HA.out
    have hcw3 : Chg (In G) w W3 := HC4.out.then HC3.out (by intro i hi; simp at hi; subst hi; exact .inl HPG.out)
    refine InIn.to i1 HGE.out (hcw3.then i2 ?_) HF2.out (i3.imp id (fun x => Nat.le_trans hcw3.size x)) ?_
    · intro i hi
      simp at hi
      rcases hi with rfl | rfl
      · exact .inl HPG.out
      · exact .inl HCG.out
    · intro r0 hr0
      rcases List.mem_append.1 hr0 with x | x
      · exact .inl x
      · simp at x; subst x; exact .inr (fun k hk => Nat.le_trans HZ4.out (HNB.out k hk))

theorem one_calls {bx n : Nat} (vm : Value) (m : Bytes) (h : InAt w px pl pd s G) (hbx : w.heap[bx]? = some (.cells #[.pointer (some ⟨px, 0, none⟩)] 26 (0, 0))) (hbG : bx ∉ G)
    (hg : Glob w) (hgG : ∀ k ∈ G, 6 ≤ k) (hm : Bs w vm m) (hoff : Off (In G) vm) (hml : m.length ≤ 65536) (hfn : s.Fine n) (hn : n ≤ 1000000) :
    Calls Tryz.prog 44 #[vm, .pointer (some ⟨bx, 0, none⟩)] w fun e w' => e = endOne (s.one m).2 ∧ InTo w w' px pl pd G (s.one m).1 := by
  obtain ⟨pdf, pc, cap, sn, rc, F, rows, vnow, h, hG⟩ := h
  cases hst : Lamp.stored m with
  | false => exact one_plain vm m h hG hbx hbG hg hgG hm hoff hml hfn hn hst
  | true =>
    have hone := Lamp.Sys.one_eq s m
    rw [if_pos hst] at hone
    obtain ⟨⟨D, g', R⟩, hD⟩ : ∃ x, Log.add s.disk s.log m = x := ⟨_, rfl⟩
    rw [hD] at hone
    rw [hone]
    rcases R with e0 | o
    · by_cases he : e0 = 0
      · subst he
        refine (one_kept vm m h hG hbx hbG hg hgG hm hoff hml hfn hn hst hD).mono ?_
        rintro e w' ⟨h1, h2⟩
        refine ⟨h1, ?_⟩
        show InTo w w' px pl pd G (Lamp.Sys.answer _ m _)
        rw [answer_eq]
        exact h2
      · refine (one_unkept he vm m h hG hbx hbG hg hgG hm hoff hml hfn hn hst hD).mono ?_
        rintro e w' ⟨h1, h2⟩
        refine ⟨h1, ?_⟩
        show InTo w w' px pl pd G (Lamp.Sys.answer _ m (e0 == 0))
        rw [answer_eq, show (e0 == 0) = false by simpa using he]
        exact h2
    · exact one_lost vm m h hG hbx hbG hg hgG hm hoff hml hfn hn hst hD
end
end Go.Proofs.YtgpmnicmgehmbaaGreatDoor


namespace Lamp
theorem Def.step_each {d : Def} {N : Int} (h : d.Ok N) (c : UInt8) : ∀ f ∈ (d.step c).found, f ∈ d.found ∨ f.length ≤ 65536 := by
  have h1 := h.now
  have h2 := h.m2
  unfold Def.step Def.take Def.skip Def.lay Def.begin Def.outside
  repeat' split
  all_goals (intro f hf; simp at hf; first | exact .inl hf | exact hf.imp id (fun x => by subst x; omega))
theorem Def.feed_each (b : Bytes) : ∀ {d : Def} {N : Int}, d.Ok N → ∀ f ∈ (d.feed b).found, f ∈ d.found ∨ f.length ≤ 65536 := by
  induction b with
  | nil => intro d N _ f hf; exact .inl (by simpa [Def.feed] using hf)
  | cons c l ih =>
    intro d N h f hf
    rcases ih (h.step c) f (by simpa [Def.feed] using hf) with x | x
    · exact Def.step_each h c f x
    · exact .inr x
theorem Sys.many_step {s s' : Sys} {m : Bytes} {l : List Bytes} (h : s.one m = (s', none)) : s.many (m :: l) = s'.many l := by
  show (match s.one m with | (s, none) => s.many l | (s, some o) => (s, some o)) = _
  rw [h]
theorem Sys.many_lost {s s' : Sys} {m : Bytes} {l : List Bytes} {o : Int} (h : s.one m = (s', some o)) : s.many (m :: l) = (s', some o) := by
  show (match s.one m with | (s, none) => s.many l | (s, some o) => (s, some o)) = _
  rw [h]
/-- The inbox as a feed's frames are handled. -/
def Sys.fed (s : Sys) (b : Bytes) : Sys := { s with box := { s.box with d := { s.box.d.feed b with found := [] } } }
theorem Sys.feed_eq (s : Sys) (b : Bytes) : s.feed b = (s.fed b).many (s.box.d.feed b).found := rfl
end Lamp
namespace Go.Proofs.YtgpmnicmgehmbaaGreatDoor
open Go.RowKit Lamp Go.Conc
set_option maxRecDepth 100000
set_option maxHeartbeats 400000

section
variable {w : World} {px pdf pl pd pc cap sn rc : Nat} {s : Lamp.Sys} {F G : List Nat} {rows : List (Value × Bytes)} {vnow : Value}

/-- The deframer is turned. -/
theorem InIn.fed {W : World} {d' : Def} {vnow' : Value} (h : InIn w px pdf pl pd pc cap sn rc s F rows vnow) (hd : DefRest W pdf d' vnow') (hc : Chg (fun k => k = pdf ∨ vnow.ownBlock = some k) w W) (hn : ∀ k, vnow'.ownBlock = some k → vnow.ownBlock = some k ∨ w.heap.size ≤ k) :
    InIn W px pdf pl pd pc cap sn rc { s with box := { s.box with d := d' } } F rows vnow' := by
  have hlt := h.lt
  have mi : ∀ {k}, (k = px ∨ k = pdf ∨ k = pc ∨ vnow.ownBlock = some k ∨ k ∈ F) → k ∈ inBlocks px pdf pc vnow F ++ rowBlocks rows := fun hk => List.mem_append.2 (.inl (mem_inBlocks.2 hk))
  have hno : ∀ k, k ∈ inBlocks px pdf pc vnow F ++ rowBlocks rows → vnow.ownBlock ≠ some k → vnow'.ownBlock ≠ some k := fun k hk h1 h2 => by
    rcases hn k h2 with e | e
    · exact h1 e
    · have := hlt k hk; omega
  have e1 : ¬ (px = pdf ∨ vnow.ownBlock = some px) := by rintro (e | e); exact h.n1 e; exact (h.n7 px e).1 rfl
  have e2 : ¬ (pc = pdf ∨ vnow.ownBlock = some pc) := by rintro (e | e); exact h.n3 e.symm; exact (h.n7 pc e).2.1 rfl
  have e3 : ∀ k ∈ F, ¬ (k = pdf ∨ vnow.ownBlock = some k) := fun k hk => by rintro (e | e); exact h.n5 (e ▸ hk); exact (h.n7 k e).2.2 hk
  refine ⟨hc.heap h.blk e1, hd, hc.heap h.ch e2, h.log.kept hc e3, h.told, fun r hr => ?_, h.n1, h.n2, h.n3, h.n4, h.n5, h.n6, fun k hk => ?_, h.room, h.cap1, h.cap2, h.few⟩
  · obtain ⟨x1, x2⟩ := h.each r hr
    have x3 : ∀ k, r.1.ownBlock = some k → ¬ (k = pdf ∨ vnow.ownBlock = some k) := fun k hk => by
      rintro (e | e)
      · exact (x2 k hk).2 (mem_inBlocks.2 (.inr (.inl e)))
      · exact (x2 k hk).2 (mem_inBlocks.2 (.inr (.inr (.inr (.inl e)))))
    refine ⟨x1.chg hc x3, fun k hk => ⟨Nat.lt_of_lt_of_le (x2 k hk).1 hc.size, fun hk2 => ?_⟩⟩
    rcases mem_inBlocks.1 hk2 with e | e | e | e | e
    · exact (x2 k hk).2 (mem_inBlocks.2 (.inl e))
    · exact (x2 k hk).2 (mem_inBlocks.2 (.inr (.inl e)))
    · exact (x2 k hk).2 (mem_inBlocks.2 (.inr (.inr (.inl e))))
    · exact hno k (List.mem_append.2 (.inr (mem_rowBlocks.2 ⟨r, hr, hk⟩))) (fun e' => (x2 k hk).2 (mem_inBlocks.2 (.inr (.inr (.inr (.inl e')))))) e
    · exact (x2 k hk).2 (mem_inBlocks.2 (.inr (.inr (.inr (.inr e)))))
  · refine ⟨?_, ?_, fun hF => ?_⟩
    · rintro rfl; exact hno _ (mi (.inl rfl)) (fun e => (h.n7 _ e).1 rfl) hk
    · rintro rfl; exact hno _ (mi (.inr (.inr (.inl rfl)))) (fun e => (h.n7 _ e).2.1 rfl) hk
    · exact hno k (mi (.inr (.inr (.inr (.inr hF))))) (fun e => (h.n7 k e).2.2 hF) hk

/-- How a feed ends. -/
def endFeed : Option Int → Ending
  | none => .returned (.int .i64 0)
  | some o => crashed o

theorem InTo.from {w2 wr w' : World} {G0 Gk : List Nat} {s' : Lamp.Sys} (hc : Chg (In G) w w2) (hG0 : ∀ j ∈ G0, j ∈ G ∨ w.heap.size ≤ j) (hc2 : Chg (In G0) w2 wr) (hGk : ∀ j ∈ Gk, j ∈ G0 ∨ w2.heap.size ≤ j) (h : InTo wr w' px pl pd Gk s') : InTo w w' px pl pd G s' := by
  obtain ⟨G', h1, h2, h3⟩ := h
  have hk : ∀ j ∈ Gk, j ∈ G ∨ w.heap.size ≤ j := fun j hj => by
    rcases hGk j hj with e | e
    · exact hG0 j e
    · exact .inr (Nat.le_trans hc.size e)
  refine ⟨G', h1, (hc.then hc2 hG0).then h2 hk, fun j hj => ?_⟩
  rcases h3 j hj with e | e
  · exact hk j e
  · exact .inr (Nat.le_trans (hc.then hc2 hG0).size e)

theorem feedBox_calls {n : Nat} {N : Int} (vb : Value) (b : Bytes) (h : InAt w px pl pd s G) (hg : Glob w) (hgG : ∀ k ∈ G, 6 ≤ k) (hb : Bs w vb b) (hoff : Off (In G) vb) (hfn : s.Fine n) (hn : n + b.length ≤ 1000000)
    (hok : s.box.d.Ok N) (hN : N + b.length ≤ 4611686018427387000) :
    Calls Tryz.prog 10 #[.pointer (some ⟨px, 0, none⟩), vb] w fun e w' => e = endFeed (s.feed b).2 ∧ InTo w w' px pl pd G (s.feed b).1 := by
  have hlt := h.lt
  obtain ⟨pdf, pc, cap, sn, rc, F, rows, vnow, h, hG⟩ := h
  have hgi : ∀ k, (k = px ∨ k = pdf ∨ k = pc ∨ vnow.ownBlock = some k ∨ k ∈ F) → k ∈ G := fun k hk => by rw [hG]; exact List.mem_append.2 (.inl (mem_inBlocks.2 hk))
  have hbf : ∀ k, vb.ownBlock = some k → k ≠ pdf ∧ vnow.ownBlock ≠ some k := fun k hk => ⟨fun e => hoff k hk (hgi k (.inr (.inl e))), fun e => hoff k hk (hgi k (.inr (.inr (.inr (.inl e)))))⟩
  have HFD : Hid (∀ w1, DefRest w1 pdf s.box.d vnow → Bs w1 vb b → _) := fun w1 h1 h2 => feed_calls w1 pdf s.box.d vnow vb b N h1 h2 hbf hok hN (by omega)
  have HFE := Lib.hid (Def.feed_each b hok)
  have HDN := Lib.hid h.df.none
  have HFL := Lib.hid (feed_found_le b s.box.d)
  rw [Lamp.Sys.feed_eq]
  have HFF : Hid ((s.fed b).Fine n) := ⟨hfn.log, hfn.seen0, hfn.seen1, hfn.kept0, hfn.kept1⟩
  have HIN := Lib.hid h
  have HB := Lib.hid hb
  have HG := Lib.hid hg
  have HGG := Lib.hid hgG
  have HLT := Lib.hid hlt
  have HGE := Lib.hid hG
  have HGI := Lib.hid hgi
  have HN := Lib.hid hn
  obtain ⟨q, cp, rfl, _, _, _, _⟩ := HB.out
  have hal : (w.alloc (.cells #[.pointer (some ⟨px, 0, none⟩)] 26)).heap[w.heap.size]? = some (.cells #[.pointer (some ⟨px, 0, none⟩)] 26 (0, 0)) := heap_alloc_new w _
  have c0 := cell_blk hal 0
  simp only [List.getElem?_toArray, List.getElem?_cons_zero] at c0
  have hin1 := HIN.out.kept ((Chg.refl No w).alloc (.cells #[.pointer (some ⟨px, 0, none⟩)] 26)) (fun _ _ x => x)
  have c1 := cell_blk hin1.blk 0
  simp only [List.getElem?_toArray, List.getElem?_cons_zero] at c1
  have HAL := Lib.hid hal
  have HIN1 := Lib.hid hin1
  have HC1 : Hid (Chg No w (w.alloc (.cells #[.pointer (some ⟨px, 0, none⟩)] 26))) := (Chg.refl No w).alloc _
  have HS1 := Lib.hid (show (w.alloc (.cells #[.pointer (some ⟨px, 0, none⟩)] 26)).heap.size = w.heap.size + 1 by simp only [World.alloc, Array.size_push])
  obtain ⟨W1, hW1⟩ : ∃ W1, w.alloc (.cells #[.pointer (some ⟨px, 0, none⟩)] 26) = W1 := ⟨_, rfl⟩
  rw [hW1] at HS1 HC1 HIN1 HAL c0 c1
  obtain ⟨s0, hs0⟩ : ∃ s0, s.fed b = s0 := ⟨_, rfl⟩
  obtain ⟨ms, hms⟩ : ∃ ms, (s.box.d.feed b).found = ms := ⟨_, rfl⟩
  have HS0 := Lib.hid hs0
  have HMS := Lib.hid hms
  rw [hs0] at HFF ⊢
  rw [hms] at HFE HFL ⊢
  clear h hb hg hgG hoff hG hgi hbf hfn hn hok hN hlt hal hin1 hs0 hms
  go_enter Tryz.func10, Tryz.ntmps10
  go_wp2_with fail
  refine (HFD.out _ HIN1.out.df (HB.out.chg HC1.out (fun _ _ x => x))).mono ?_
  rintro e w2 ⟨vl, vnow', rfl, hd2, hrows, hc2, hn2⟩
  have hin2 := HIN1.out.fed hd2 hc2 hn2
  rw [show ({ s with box := { s.box with d := { s.box.d.feed b with found := [] } } } : Lamp.Sys) = s0 from HS0.out] at hin2
  obtain ⟨rws, hown, htold, hvl, heach⟩ := hrows
  rw [HMS.out] at htold
  obtain ⟨qv, capv, hv⟩ := hown.slice
  rw [List.length_map] at hv
  subst hv
  obtain ⟨G0, hG0⟩ : ∃ G0, inBlocks px pdf pc vnow' F ++ rowBlocks rows = G0 := ⟨_, rfl⟩
  have HLT := HLT
  have hsz1 := HS1.out
  have g1 : ∀ j ∈ G0, j ∈ G ∨ (vnow'.ownBlock = some j ∧ W1.heap.size ≤ j) := by
    intro j hj
    rw [← hG0] at hj
    rcases List.mem_append.1 hj with hj | hj
    · rcases mem_inBlocks.1 hj with x | x | x | x | x
      · exact .inl (HGI.out j (.inl x))
      · exact .inl (HGI.out j (.inr (.inl x)))
      · exact .inl (HGI.out j (.inr (.inr (.inl x))))
      · rcases hn2 j x with y | y
        · exact .inl (HGI.out j (.inr (.inr (.inr (.inl y)))))
        · exact .inr ⟨x, y⟩
      · exact .inl (HGI.out j (.inr (.inr (.inr (.inr x)))))
    · exact .inl (by rw [HGE.out]; exact List.mem_append.2 (.inr hj))
  have gS : ∀ k, (k = pdf ∨ vnow.ownBlock = some k) → k ∈ G := fun k hk => hk.elim (fun e => HGI.out k (.inr (.inl e))) (fun e => HGI.out k (.inr (.inr (.inr (.inl e)))))
  have hpx : px < w.heap.size := HLT.out px (HGI.out px (.inl rfl))
  have hpx6 := HGG.out px (HGI.out px (.inl rfl))
  have hc02 : Chg (In G) w w2 := (HC1.out.mono (fun _ _ x => x.elim)).then hc2 (fun i hi => .inl (gS i hi))
  have hz12 := hc2.size
  have hbx2 : w2.heap[w.heap.size]? = some (.cells #[.pointer (some ⟨px, 0, none⟩)] 26 (0, 0)) := hc2.heap HAL.out (fun hk => by have := HLT.out _ (gS _ hk); omega)
  have hbG0 : w.heap.size ∉ G0 := fun hk => by
    rcases g1 _ hk with e | ⟨_, e⟩
    · have := HLT.out _ e; omega
    · omega
  have g6 : ∀ j ∈ G0, 6 ≤ j := fun j hj => by
    rcases g1 _ hj with e | ⟨_, e⟩
    · exact HGG.out j e
    · omega
  have hgl2 : Glob w2 := HG.out.kept hc02 (fun k hk hG => by have := HGG.out k hG; omega)
  have hvoff : ∀ k, W1.heap.size ≤ k → vnow'.ownBlock ≠ some k → k ∉ G0 := fun k h1 h2 h3 => by
    rcases g1 _ h3 with e | ⟨e, _⟩
    · have := HLT.out _ e; omega
    · exact h2 e
  have hcell : ∀ k r, rws[k]? = some r → ∃ gv, qv = some ⟨gv, 0, none⟩ ∧ gv ∉ G0 ∧ w2.cell? ⟨gv, k, none⟩ = some r.1 := by
    intro k r hr
    obtain ⟨gv, cap2, hv, hc⟩ := hown.at k r.1 (by rw [List.getElem?_map, hr]; rfl)
    rw [List.length_map] at hv
    injection hv with e1 e2 e3
    subst e1
    obtain ⟨h1, h2⟩ := hvl gv rfl
    exact ⟨gv, rfl, hvoff gv h1 (fun e => h2 (.inr e)), hc⟩
  have hfr : ∀ r ∈ rws, Bs w2 r.1 r.2 ∧ ∀ k, r.1.ownBlock = some k → k < w2.heap.size ∧ k ∉ G0 := fun r hr => by
    obtain ⟨h1, h2⟩ := heach r hr
    refine ⟨h1, fun k hk => ?_⟩
    obtain ⟨h3, h4, h5, _⟩ := h2 k hk
    exact ⟨h4, hvoff k h3 (fun e => h5 (.inr e))⟩
  have hlen : rws.length ≤ b.length := by
    have h1 := HFL.out
    rw [htold, HDN.out, List.length_map, List.length_nil] at h1
    omega
  have hml : ∀ r ∈ rws, r.2.length ≤ 65536 := fun r hr => by
    rcases HFE.out r.2 (by rw [htold]; exact List.mem_map.2 ⟨r, hr, rfl⟩) with e | e
    · rw [HDN.out] at e; simp at e
    · exact e
  have HC02 := Lib.hid hc02
  have HBX2 := Lib.hid hbx2
  have HBG0 := Lib.hid hbG0
  have H6 := Lib.hid g6
  have HGL2 := Lib.hid hgl2
  have HCELL := Lib.hid hcell
  have HFR := Lib.hid hfr
  have HLEN := Lib.hid hlen
  have HML := Lib.hid hml
  have HTOLD := Lib.hid htold
  have HB2 : Hid (w.heap.size < w2.heap.size ∧ 6 ≤ w2.heap.size) := ⟨by omega, by omega⟩
  have HG0 : Hid (∀ j ∈ G0, j ∈ G ∨ w.heap.size ≤ j) := fun j hj => (g1 j hj).imp id (fun e => by have := e.2; omega)
  have HIN2 : Hid (InAt w2 px pl pd s0 G0) := ⟨_, _, _, _, _, _, _, _, hin2, hG0.symm⟩
  clear hd2 hc2 hn2 hin2 hown hvl heach hG0 g1 gS hpx hpx6 hc02 hz12 hbx2 hbG0 g6 hgl2 hvoff hcell hfr hlen hml htold hsz1 c0 c1 hW1
  go_wp2_with fail
  go_loopw [24] (fun i wr => ∃ k : Nat, k ≤ rws.length ∧ i = .int .i64 k ∧ ∃ sk Gk, s0.many ms = sk.many (ms.drop k) ∧ sk.Fine (n + k) ∧ InAt wr px pl pd sk Gk ∧ Chg (In G0) w2 wr ∧ ∀ j ∈ Gk, j ∈ G0 ∨ w2.heap.size ≤ j)
    (fun i _ => rws.length - (intOf i).toNat)
  case atStart => exact ⟨0, Nat.zero_le _, rfl, s0, G0, by simp, HFF.out, HIN2.out, Chg.refl _ _, fun j hj => .inl hj⟩
  case round =>
    obtain ⟨k, hk, rfl, sk, Gk, hmany, hfk, hink, hck, hGk⟩ := hrel
    by_cases hkl : k < rws.length
    · obtain ⟨r, hr⟩ : ∃ r, rws[k]? = some r := ⟨_, List.getElem?_eq_getElem hkl⟩
      obtain ⟨gv, rfl, hgv, hc⟩ := HCELL.out k r hr
      have hmem := List.mem_of_getElem? hr
      obtain ⟨hbs, hblk⟩ := HFR.out r hmem
      have hcr : wr.cell? ⟨gv, k, none⟩ = some r.1 := hck.cell hc hgv
      have hbsr : Bs wr r.1 r.2 := hbs.chg hck (fun j hj hG => (hblk j hj).2 hG)
      have hdrop : ms.drop k = r.2 :: ms.drop (k + 1) := by
        rw [HTOLD.out, List.drop_eq_getElem_cons (by simpa using hkl)]
        congr 1
        rw [List.getElem_map]
        rw [List.getElem?_eq_getElem hkl] at hr
        injection hr with hr
        rw [hr]
      rw [hdrop] at hmany
      have hbxr := hck.heap HBX2.out HBG0.out
      have hone := one_calls (n := n + k) (bx := w.heap.size) (w := wr) (G := Gk) (s := sk) r.1 r.2 hink hbxr (fun hG => by
          rcases hGk _ hG with e | e
          · exact HBG0.out e
          · have := HB2.out.1; omega)
        (HGL2.out.kept hck (fun j hj hG => by have := H6.out j hG; omega)) (fun j hj => by
          rcases hGk j hj with e | e
          · exact H6.out j e
          · have := HB2.out.2; omega) hbsr (fun j hj hG => by
          obtain ⟨h1, h2⟩ := hblk j hj
          rcases hGk j hG with e | e
          · exact h2 e
          · omega) (HML.out r hmem) hfk (by have := HLEN.out; have := HN.out; omega)
      have hf1 := hfk.one r.2 (HML.out r hmem)
      obtain ⟨⟨s', x⟩, hx⟩ : ∃ x, sk.one r.2 = x := ⟨_, rfl⟩
      rw [hx] at hone hf1
      obtain ⟨qr, cr, hrv, _⟩ := hbsr
      rw [hrv] at hone hcr
      have HONE := Lib.hid hone
      have HX := Lib.hid hx
      have HF1 := Lib.hid hf1
      have HCK := Lib.hid hck
      have HGK := Lib.hid hGk
      have HMANY := Lib.hid hmany
      have HKL := Lib.hid hkl
      have hk9 : (k : Int) ≤ 1000000 := by have := HLEN.out; have := HN.out; omega
      clear hone hx hf1 hck hGk hmany hdrop hfk hink hbs hblk hc hgv hbxr hmem hr hrv
      cases x with
      | some o =>
        dsimp only [endOne] at HONE
        go_wp2_with fail
        refine HONE.out.mono ?_
        rintro e w' ⟨rfl, hto⟩
        have hp : crashed o = endFeed (s0.many ms).2 ∧ InTo w w' px pl pd G (s0.many ms).1 := by
          rw [HMANY.out, Lamp.Sys.many_lost HX.out]
          exact ⟨rfl, InTo.from HC02.out HG0.out HCK.out HGK.out hto⟩
        exact ⟨rfl, hp⟩
      | none =>
        dsimp only [endOne] at HONE
        go_wp2_with fail
        refine HONE.out.mono ?_
        rintro e w' ⟨rfl, hto⟩
        go_wp2_with fail
        have hrel' : ∃ k' : Nat, k' ≤ rws.length ∧ Value.int .i64 ((k : Int) + 1) = .int .i64 k' ∧ ∃ sk Gk, s0.many ms = sk.many (ms.drop k') ∧ sk.Fine (n + k') ∧ InAt w' px pl pd sk Gk ∧ Chg (In G0) w2 w' ∧ ∀ j ∈ Gk, j ∈ G0 ∨ w2.heap.size ≤ j := by
          obtain ⟨G', h1, h2, h3⟩ := hto
          refine ⟨k + 1, HKL.out, by go_num, s', G', by rw [HMANY.out, Lamp.Sys.many_step HX.out], HF1.out, h1, HCK.out.then h2 HGK.out, fun j hj => ?_⟩
          rcases h3 j hj with e | e
          · exact HGK.out j e
          · exact .inr (Nat.le_trans HCK.out.size e)
        have HR := Lib.hid hrel'
        clear hrel' hto
        go_roundw
        case rel => exact HR.out
        case measure => have := HKL.out; simp [intOf]; omega
    · have hke : k = rws.length := by omega
      subst hke
      have hd : ms.drop rws.length = [] := by rw [HTOLD.out]; simp
      rw [hd] at hmany
      have HTO : Hid (Ending.returned (.int .i64 0) = endFeed (s0.many ms).2 ∧ InTo w wr px pl pd G (s0.many ms).1) := by
        rw [hmany]
        exact Lib.hid ⟨rfl, InTo.from HC02.out HG0.out hck hGk (InTo.same hink)⟩
      clear hmany hd hck hGk hink hfk
      go_wp2_with fail
      go_ret
      exact HTO.out
end
end Go.Proofs.YtgpmnicmgehmbaaGreatDoor


namespace Go.Proofs.YtgpmnicmgehmbaaGreatDoor
open Go.RowKit Lamp Go.Conc
set_option maxRecDepth 100000
set_option maxHeartbeats 400000

theorem nilReset_calls (w : World) : Calls Tryz.prog 19 #[.pointer none] w fun e w' => e = .returned (.tuple #[]) ∧ w = w' := by
  go_enter Tryz.func19, Tryz.ntmps19
  go_wp2_with fail
  go_end0
  exact ⟨rfl, rfl⟩
theorem nilSeen_calls (w : World) : Calls Tryz.prog 13 #[.pointer none] w fun e w' => e = .returned (.int .i64 0) ∧ w = w' := by
  go_enter Tryz.func13, Tryz.ntmps13
  go_wp2_with fail
  go_ret
  exact ⟨rfl, rfl⟩
theorem nilKept_calls (w : World) : Calls Tryz.prog 20 #[.pointer none] w fun e w' => e = .returned (.int .i64 0) ∧ w = w' := by
  go_enter Tryz.func20, Tryz.ntmps20
  go_wp2_with fail
  go_ret
  exact ⟨rfl, rfl⟩
theorem nilHeld_calls (w : World) : Calls Tryz.prog 18 #[.pointer none] w fun e w' => e = .returned (.int .i64 0) ∧ w = w' := by
  go_enter Tryz.func18, Tryz.ntmps18
  go_wp2_with fail
  go_ret
  exact ⟨rfl, rfl⟩
theorem nilTake_calls (w : World) : Calls Tryz.prog 11 #[.pointer none] w fun e w' => e = .returned (.slice none 0 0) ∧ w = w' := by
  go_enter Tryz.func11, Tryz.ntmps11
  go_wp2_with fail
  go_ret
  exact ⟨rfl, rfl⟩
theorem nilFeed_calls (w : World) (q : Option Addr) (n c : Nat) : Calls Tryz.prog 10 #[.pointer none, .slice q n c] w fun e w' => e = .returned (.int .i64 1) ∧ Chg No w w' := by
  have hal : (w.alloc (.cells #[.pointer none] 26)).heap[w.heap.size]? = some (.cells #[.pointer none] 26 (0, 0)) := heap_alloc_new w _
  have c0 := cell_blk hal 0
  simp only [List.getElem?_toArray, List.getElem?_cons_zero] at c0
  have HC : Hid (Chg No w (w.alloc (.cells #[.pointer none] 26))) := (Chg.refl No w).alloc _
  clear hal
  go_enter Tryz.func10, Tryz.ntmps10
  go_wp2_with fail
  go_ret
  exact ⟨rfl, HC.out⟩
theorem nilNew_calls (w : World) (n : Int) : Calls Tryz.prog 21 #[.pointer none, .int .i64 n] w fun e w' => e = .returned (.tuple #[.pointer none, .int .i64 1]) ∧ w = w' := by
  go_enter Tryz.func21, Tryz.ntmps21
  go_wp2_with fail
  go_ret2
  exact ⟨rfl, rfl⟩
theorem newBox_bad (w : World) (pl : Nat) (n : Int) (h : n < 1 ∨ 65536 < n) : Calls Tryz.prog 21 #[.pointer (some ⟨pl, 0, none⟩), .int .i64 n] w fun e w' => e = .returned (.tuple #[.pointer none, .int .i64 3]) ∧ w = w' := by
  have HN := Lib.hid (newDef_bad n w h)
  go_enter Tryz.func21, Tryz.ntmps21
  go_wp2_with fail
  refine HN.out.mono ?_
  rintro e w1 ⟨rfl, rfl⟩
  go_wp2_with fail
  go_ret2
  exact ⟨rfl, rfl⟩

section
variable {w : World} {pl pd px : Nat} {d : Disk} {g : Log} {s : Lamp.Sys} {F G : List Nat}

theorem newBox_ok (n : Int) (h1 : 1 ≤ n) (h2 : n ≤ 65536) (h : LogAt w pl pd d g F) :
    Calls Tryz.prog 21 #[.pointer (some ⟨pl, 0, none⟩), .int .i64 n] w fun e w' => ∃ px G, e = .returned (.tuple #[.pointer (some ⟨px, 0, none⟩), .int .i64 0]) ∧
      InAt w' px pl pd ⟨d, g, ⟨Def.new n, [], 0, 0⟩⟩ G ∧ Chg No w w' ∧ ∀ k ∈ G, k ∈ F ∨ w.heap.size ≤ k := by
  have HD := Lib.hid (newDef_ok n w h1 h2)
  have HL := Lib.hid h
  clear h
  have hmk := fun w1 => run_makeChan w1 1 (by omega) (by omega)
  go_enter Tryz.func21, Tryz.ntmps21
  go_wp2_with fail
  refine HD.out.mono ?_
  rintro e w1 ⟨rfl, hdef, hbel⟩
  have HDF := Lib.hid hdef
  have HB := Lib.hid hbel
  clear hdef hbel
  go_wp2_with fail
  go_ret2
  have hz := HB.out.size
  have hz2 := lt_of_heap HDF.out.blk
  have hc1 : Chg No w w1 := Chg.of_below HB.out
  have hc2 : Chg No w1 ((w1.alloc (.chan 1 #[] false 0 0 false)).alloc (boxObj w.heap.size pl w1.heap.size 0 0)) := ((Chg.refl No w1).alloc _).alloc _
  have hlt := HL.out.lt
  refine ⟨w1.heap.size + 1, _, ?_, ⟨w.heap.size, w1.heap.size, 1, 0, 0, F, [], .slice none 0 0, ⟨?_, ?_, ?_, ?_, rfl, fun r hr => by simp at hr, ?_, ?_, ?_, ?_, ?_, ?_, fun k hk => by simp [Value.ownBlock] at hk, by simp, by simp, by simp, by simp⟩, rfl⟩, ?_, ?_⟩
  · rfl
  · rw [show w1.heap.size + 1 = (w1.alloc (Obj.chan 1 #[] false 0 0 false)).heap.size from by simp]; exact heap_alloc_new _ _
  · exact HDF.out.kept hc2 (fun x => x) (fun _ _ x => x)
  · exact ((Chg.refl No (w1.alloc (Obj.chan 1 #[] false 0 0 false))).alloc _).heap (heap_alloc_new w1 _) (fun x => x)
  · exact (HL.out.kept hc1 (fun _ _ x => x)).kept hc2 (fun _ _ x => x)
  · omega
  · omega
  · omega
  · intro hk; have := hlt _ hk; omega
  · intro hk; have := hlt _ hk; omega
  · intro hk; have := hlt _ hk; omega
  · exact hc1.trans hc2
  · intro k hk
    rcases List.mem_append.1 hk with hk | hk
    · rcases mem_inBlocks.1 hk with x | x | x | x | x
      · exact .inr (by omega)
      · exact .inr (by omega)
      · exact .inr (by omega)
      · simp [Value.ownBlock] at x
      · exact .inl x
    · obtain ⟨r, hr, _⟩ := mem_rowBlocks.1 hk
      simp at hr

theorem resetBox_calls (h : InAt w px pl pd s G) : Calls Tryz.prog 19 #[.pointer (some ⟨px, 0, none⟩)] w fun e w' => e = .returned (.tuple #[]) ∧ InTo w w' px pl pd G { s with box := { s.box with d := s.box.d.outside } } := by
  obtain ⟨pdf, pc, cap, sn, rc, F, rows, vnow, h, hG⟩ := h
  have c3 := cell_blk h.blk 0
  simp only [List.getElem?_toArray, List.getElem?_cons_zero] at c3
  have HH := Lib.hid (reset_calls w pdf s.box.d vnow h.df)
  have H := Lib.hid h
  have HG := Lib.hid hG
  clear h hG
  go_enter Tryz.func19, Tryz.ntmps19
  go_wp2_with fail
  refine HH.out.mono ?_
  rintro e w1 ⟨rfl, hd, hc⟩
  have HD := Lib.hid hd
  have HC := Lib.hid hc
  clear hd hc
  go_wp2_with fail
  go_end0
  have hin := H.out.fed HD.out (HC.out.mono (fun i _ hi => .inl (by simpa using hi))) (fun k hk => by simp [Value.ownBlock] at hk)
  refine ⟨rfl, _, ⟨_, _, _, _, _, _, _, _, hin, rfl⟩, ?_, ?_⟩
  · refine HC.out.mono (fun i _ hi => ?_)
    simp at hi
    subst hi
    rw [HG.out]
    exact List.mem_append.2 (.inl (mem_inBlocks.2 (.inr (.inl rfl))))
  · intro k hk
    left
    rw [HG.out]
    rcases List.mem_append.1 hk with hk | hk
    · refine List.mem_append.2 (.inl (mem_inBlocks.2 ?_))
      rcases mem_inBlocks.1 hk with x | x | x | x | x
      · exact .inl x
      · exact .inr (.inl x)
      · exact .inr (.inr (.inl x))
      · simp [Value.ownBlock] at x
      · exact .inr (.inr (.inr (.inr x)))
    · exact List.mem_append.2 (.inr hk)

theorem seen_calls (h : InAt w px pl pd s G) : Calls Tryz.prog 13 #[.pointer (some ⟨px, 0, none⟩)] w fun e w' => e = .returned (.int .i64 s.box.seen) ∧ w = w' := by
  obtain ⟨pdf, pc, cap, sn, rc, F, rows, vnow, h, hG⟩ := h
  have c3 := cell_blk h.blk 3
  simp only [List.getElem?_toArray, List.getElem?_cons_succ, List.getElem?_cons_zero] at c3
  clear h hG
  go_enter Tryz.func13, Tryz.ntmps13
  go_wp2_with fail
  go_ret
  exact ⟨rfl, rfl⟩
theorem kept_calls (h : InAt w px pl pd s G) : Calls Tryz.prog 20 #[.pointer (some ⟨px, 0, none⟩)] w fun e w' => e = .returned (.int .i64 s.box.kept) ∧ w = w' := by
  obtain ⟨pdf, pc, cap, sn, rc, F, rows, vnow, h, hG⟩ := h
  have c3 := cell_blk h.blk 4
  simp only [List.getElem?_toArray, List.getElem?_cons_succ, List.getElem?_cons_zero] at c3
  clear h hG
  go_enter Tryz.func20, Tryz.ntmps20
  go_wp2_with fail
  go_ret
  exact ⟨rfl, rfl⟩
theorem heldBox_calls (h : InAt w px pl pd s G) (hm : (s.box.d.now.length : Int) ≤ 65536) : Calls Tryz.prog 18 #[.pointer (some ⟨px, 0, none⟩)] w fun e w' => e = .returned (.int .i64 s.box.d.held) ∧ w = w' := by
  obtain ⟨pdf, pc, cap, sn, rc, F, rows, vnow, h, hG⟩ := h
  have c3 := cell_blk h.blk 0
  simp only [List.getElem?_toArray, List.getElem?_cons_zero] at c3
  have HH := Lib.hid (held_calls w pdf s.box.d vnow h.df hm)
  clear h hG hm
  go_enter Tryz.func18, Tryz.ntmps18
  go_wp2_with fail
  refine HH.out.mono ?_
  rintro e w1 ⟨rfl, rfl⟩
  go_wp2_with fail
  go_ret
  exact ⟨rfl, rfl⟩
end
end Go.Proofs.YtgpmnicmgehmbaaGreatDoor
