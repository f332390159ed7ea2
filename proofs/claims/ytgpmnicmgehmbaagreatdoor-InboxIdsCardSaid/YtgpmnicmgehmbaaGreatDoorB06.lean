/- The log's Add.
   The log's other calls: Len, Good, Get, named, Open on a disk without the file.
   segment.nth and segment.Split: the two loops over what stands between a sign's places.
   Package segment: names, fields, repetitions, components; segments made and joined. -/
import Derived.Test.YtgpmnicmgehmbaaGreatDoorB05
import Derived.Test.YtgpmnicmgehmbaaGreatDoorB03

namespace Go.Proofs.YtgpmnicmgehmbaaGreatDoor
open Go.RowKit Lamp
set_option maxRecDepth 100000
set_option maxHeartbeats 400000

section
variable {w : World} {pl pd m : Nat} {d : Disk} {g : Log} {fs : List FR} {vl : Value} {rows : List (Value × Bytes)} {F : List Nat}

theorem add_bad (p : Addr) (vb : Value) (b : Bytes) (hbs : Bs w vb b) (hf : fits b = false) :
    Calls Tryz.prog 46 #[.pointer (some p), vb] w fun e w' => e = .returned (.int .i64 9) ∧ w = w' := by
  have HP := Lib.hid (put_bad w vb b hbs hf)
  clear hbs hf
  go_enter Tryz.func46, Tryz.ntmps46
  go_wp2_with fail
  refine HP.out.mono ?_
  rintro e w1 ⟨rfl, rfl⟩
  go_wp2_with fail
  go_ret
  exact ⟨rfl, rfl⟩

set_option maxHeartbeats 4000000 in
theorem add_calls0 (vb : Value) (b : Bytes) (h : LogIn w pl pd m d g fs vl rows) (hbs : Bs w vb b) (hoff : Off (In (logBlocks pl pd m fs vl ++ rowBlocks rows)) vb) (hs : d.Sound 4611686018427380000) (hn : named g.name = true) (hnl : g.name.length ≤ 1000000)
    (hg0 : 0 ≤ g.good) (hg1 : g.good ≤ 1152921504606846976) (hgl : g.l.length ≤ 1000000000) (hf : fits b = true) :
    Calls Tryz.prog 46 #[.pointer (some ⟨pl, 0, none⟩), vb] w fun e w' => ∃ r, r = Log.add d g b ∧ e = endInt r.2.2 ∧ LogTo w w' pl pd (logBlocks pl pd m fs vl ++ rowBlocks rows) r.1 r.2.1 := by
  obtain ⟨qv, capv, hv⟩ := h.own.slice
  rw [List.length_map] at hv
  subst hv
  have HPUT := Lib.hid (put_ok w vb b hbs hf)
  have HADD := Lib.hid (show Log.add d g b = _ by unfold Log.add; rw [if_neg (by rw [hf]; exact Bool.noConfusion)])
  have HBS := Lib.hid hbs
  have HOFF := Lib.hid hoff
  have H := Lib.hid h
  have HS := Lib.hid hs
  have HN := Lib.hid hn
  have HBN : Hid (b ≠ []) := by rintro rfl; simp [fits] at hf
  have hbl : b.length ≤ 65536 := by simp only [fits, Bool.and_eq_true, decide_eq_true_eq] at hf; omega
  clear hbs hoff h hs hn hf
  go_enter Tryz.func46, Tryz.ntmps46
  go_wp2_with fail
  refine HPUT.out.mono ?_
  rintro e w1 ⟨gx, capx, rfl, hox, hgx, hb1⟩
  have HB1 : Hid (Below w.heap.size w w1) := hb1
  have hxl : (entryBytes b).length = b.length + 8 := by simp [entryBytes, four]
  have HXL := Lib.hid hxl
  have HOX : Hid (Bs w1.drew (.slice (some ⟨gx, 0, none⟩) (b.length + 8) capx) (entryBytes b)) := (own_bytes hox (by omega)).chg ((Chg.refl No w1).drew) (fun _ _ x => x)
  have HCW : Hid (Chg (In (logBlocks pl pd m fs (.slice qv rows.length capv) ++ rowBlocks rows)) w w1.drew) := ((Chg.of_below HB1.out).mono (fun _ _ x => x.elim)).drew
  have H1d : Hid (LogIn w1.drew pl pd m d g fs (.slice qv rows.length capv) rows) := H.out.kept ((Chg.of_below hb1).drew) (fun _ _ x => x)
  have c0 : w1.drew.cell? ⟨pl, 0, none⟩ = some (.pointer (some ⟨pd, 0, none⟩)) := cell_blk H1d.out.blk 0
  have c1 : w1.drew.cell? ⟨pl, 1, none⟩ = some (.string (ofL g.name)) := cell_blk H1d.out.blk 1
  have HOX2 : Hid (Off (In (diskBlocks pd m fs)) (.slice (some ⟨gx, 0, none⟩) (b.length + 8) capx)) := fun k hk hk' => by have h1 := H.out.disk.lt k hk'; simp [Value.ownBlock] at hk; omega
  clear hox hb1 hxl hgx
  go_wp2_with fail
  have hA := append_calls g.name (.slice (some ⟨gx, 0, none⟩) (b.length + 8) capx) (entryBytes b) H1d.out.disk HN.out hnl HOX.out HOX2.out HS.out.o0 (by have := HS.out.o1; omega) HS.out.u0 HS.out.u1 HS.out.r0 HS.out.r1
    (fun f hf => by have h1 := HS.out.len hf; have h2 := HS.out.u1; omega)
  obtain ⟨hS1, f1, hf1, _⟩ := HS.out.append g.name (entryBytes b) HN.out
  obtain ⟨⟨D1, R⟩, hD1⟩ : ∃ x, x = d.append g.name (entryBytes b) := ⟨_, rfl⟩
  rw [← hD1] at hA HADD hS1 hf1
  have HS1 := Lib.hid hS1
  have HF1 := Lib.hid hf1
  clear hD1 hS1 hf1
  have HE1 : Hid (∀ op, R = .lost op → (D1, g, Res.lost op) = Log.add d g b) := by
    intro op e
    rw [HADD.out, e]
  have HLO : Hid (∀ w2, DiskTo w1.drew w2 pd m fs D1 → LogTo w w2 pl pd (logBlocks pl pd m fs (.slice qv rows.length capv) ++ rowBlocks rows) D1 g) := fun w2 h1 => (H1d.out.beneath h1).1.before HCW.out
  go_region_law ((go_simp; go_at_call 79; refine hA.mono ?_; rintro e w2 ⟨fs', hd2, rfl, hc2, hm2⟩; rcases R with ⟨n1, e1⟩ | op; (case lost => exact ⟨rfl, (D1, g, Res.lost op), HE1.out _ rfl, rfl, HLO.out _ ⟨fs', hd2, hc2, hm2⟩⟩); dsimp only [endAppend]))
  all_goals
    obtain ⟨fs2, hI2, hC2, hsub2⟩ := H1d.out.under ⟨fs', hd2, hc2, hm2⟩
    have HI2 := Lib.hid hI2
    have HAF : Hid (∀ w3 D' g', LogTo w2 w3 pl pd (logBlocks pl pd m fs2 (.slice qv rows.length capv) ++ rowBlocks rows) D' g' → LogTo w w3 pl pd (logBlocks pl pd m fs (.slice qv rows.length capv) ++ rowBlocks rows) D' g') :=
      fun w3 D' g' h => h.after (HCW.out.trans hC2) (fun k hk => (hsub2 k hk).imp id (fun e => Nat.le_trans HCW.out.size e))
    have HB2 : Hid (Bs w2 vb b) := (HBS.out.chg HCW.out HOFF.out).chg hC2 HOFF.out
    have HO2 : Hid (Off (In (logBlocks pl pd m fs2 (.slice qv rows.length capv) ++ rowBlocks rows)) vb) := fun k hk hk' => by
      rcases hsub2 k hk' with e | e
      · exact HOFF.out k hk e
      · have hlt : k < w.heap.size := by
          obtain ⟨qb, capb, rfl, _, _, _, hby⟩ := HBS.out
          cases qb with
          | none => simp [Value.ownBlock] at hk
          | some ad =>
            have hpos : 0 < b.length := List.length_pos_iff.2 HBN.out
            obtain ⟨bb, o, hq, hx⟩ := hby hpos
            cases hq
            simp [Value.ownBlock] at hk
            subst hk
            exact World.block_lt_of_cell? w _ (hx 0 hpos)
        have := HCW.out.size
        omega
    have HE1' : Hid (Log.add d g b = _) := HADD
    clear HE1 HADD HLO H1d HCW H HS HPUT HOX HOX2 HXL c0 c1 hd2 hc2 hm2 hsub2 hA hC2 hI2
    dsimp only [] at HE1'
    by_cases he : e1 = 0
    · subst he
      have H2d : Hid (LogIn w2.drew pl pd m D1 g fs2 (.slice qv rows.length capv) rows) := HI2.out.kept ((Chg.refl No w2).drew) (fun _ _ x => x)
      have d0 : w2.drew.cell? ⟨pl, 0, none⟩ = some (.pointer (some ⟨pd, 0, none⟩)) := cell_blk H2d.out.blk 0
      have d1 : w2.drew.cell? ⟨pl, 1, none⟩ = some (.string (ofL g.name)) := cell_blk H2d.out.blk 1
      go_wp2_with fail
      have hY := sync_some (H2d.out.disk) g.name HF1.out HS1.out.o0 (by have := HS1.out.o1; omega) HS1.out.f0 HS1.out.f1
      have hS3 := HS1.out.sync g.name
      obtain ⟨s3, hf3⟩ := Disk.sync_file g.name HF1.out
      rw [if_neg (by simp)] at HE1'
      obtain ⟨⟨D3, R3⟩, hD3⟩ : ∃ x, x = D1.sync g.name := ⟨_, rfl⟩
      rw [← hD3] at hY hS3 hf3 HE1'
      have HS3 := Lib.hid hS3
      have HF3 := Lib.hid hf3
      clear hD3 hS3 hf3
      have HE3 : Hid (∀ op, R3 = .lost op → (D3, g, Res.lost op) = Log.add d g b) := by
        intro op e
        rw [HE1'.out, e]
      have HLO : Hid (∀ w3, DiskTo w2.drew w3 pd m fs2 D3 → LogTo w w3 pl pd (logBlocks pl pd m fs (.slice qv rows.length capv) ++ rowBlocks rows) D3 g) := fun w3 h1 => HAF.out _ _ _ ((H2d.out.beneath h1).1.before ((Chg.refl _ w2).drew))
      go_region_law ((go_simp; go_at_call 56; refine hY.mono ?_; rintro e w3 ⟨rfl, ht3⟩; rcases R3 with e3 | op; (case lost => exact ⟨rfl, (D3, g, Res.lost op), HE3.out _ rfl, rfl, HLO.out _ ht3⟩); dsimp only [endInt]))
      all_goals
        obtain ⟨fs3, hI3, hC3, hsub3⟩ := H2d.out.under ht3
        have HI3 := Lib.hid hI3
        have HAF3 : Hid (∀ w4 D' g', LogTo w3 w4 pl pd (logBlocks pl pd m fs3 (.slice qv rows.length capv) ++ rowBlocks rows) D' g' → LogTo w w4 pl pd (logBlocks pl pd m fs (.slice qv rows.length capv) ++ rowBlocks rows) D' g') :=
          fun w4 D' g' h => HAF.out _ _ _ (h.after (((Chg.refl _ w2).drew).trans hC3) hsub3)
        have HB3 : Hid (Bs w3 vb b) := (HB2.out.chg ((Chg.refl No w2).drew) (fun _ _ x => x)).chg hC3 HO2.out
        have HE3' : Hid (Log.add d g b = _) := HE1'
        clear HE3 HE1' HLO H2d d0 d1 ht3 hsub3 hC3 hI3 hY HAF HB2 HO2 HI2
        dsimp only [] at HE3'
        by_cases he3 : e3 = 0
        · subst he3
          have H3d : Hid (LogIn w3.drew pl pd m D3 g fs3 (.slice qv rows.length capv) rows) := HI3.out.kept ((Chg.refl No w3).drew) (fun _ _ x => x)
          have HE4 : Hid ((D3, { g with l := g.l ++ [b], good := g.good + ((b.length : Int) + 8) }, Res.ok 0) = Log.add d g b) := by
            show _ = _
            rw [HE3'.out, if_neg (by simp)]
            simp [entryBytes, four]
            omega
          have d2 : w3.cell? ⟨pl, 2, none⟩ = some (.slice qv rows.length capv) := cell_blk HI3.out.blk 2
          have f2 : w3.frozen? ⟨pl, 2, none⟩ = false := free_blk HI3.out.blk 2
          have d2a := fun o => cell_al d2 o
          go_wp2_with fail
          have hgl' : (rows.length + 1) * 24 ≤ 140737488355328 := by
            have := congrArg List.length HI3.out.told
            rw [List.length_map] at this
            omega
          have HOA : Hid (Own ((w3.alloc (.cells #[] 5)).drew) 5 (.slice (some ⟨w3.heap.size, 0, none⟩) 0 0) (([] : Bytes).map u8)) := Own.lit w3 5 #[] (by decide)
          have HSB : Hid (∀ o, Src (w3.alloc o).drew vb (b.map u8)) := fun o => (HB3.out.chg (((Chg.refl No w3).alloc o).drew) (fun _ _ x => x)).src
          have HVN : Hid ((Value.slice qv rows.length capv).ownBlock ≠ some w3.heap.size) := fun e => by have := HI3.out.own.lt e; omega
          have HVP : Hid ((Value.slice qv rows.length capv).ownBlock ≠ some pl) := fun e => (HI3.out.vd _ e).1 rfl
          have HOB : Hid (∀ wA o, Chg (fun k => (Value.slice (some ⟨w3.heap.size, 0, none⟩) 0 0).ownBlock = some k) (w3.alloc (.cells #[] 5)).drew wA → Own (wA.alloc o) 22 (.slice qv rows.length capv) (rows.map (·.1))) :=
            fun wA o hc => ((((HI3.out.own.alloc _).kept ((Chg.refl No _).drew) (fun _ _ x => x)).kept hc (fun k hk e => HVN.out (by rw [hk, ← e]; rfl))).alloc o)
          have HPN : Hid (¬ (Value.slice (some ⟨w3.heap.size, 0, none⟩) 0 0).ownBlock = some pl) := fun e => by have := lt_of_heap HI3.out.blk; simp [Value.ownBlock] at e; omega
          go_region_law ((first
            | (refine step_wp rfl ?_; refine wp_appB _ _ rfl (.slice (some ⟨w3.heap.size, 0, none⟩) 0 0) [] rfl ?o1 _ b rfl ?o2 ?o3 ?o4 ?_; (case o1 => exact HOA.out); (case o2 => exact HSB.out _); (case o3 => exact HBN.out); (case o4 => (simp; omega)); intro gA capA wA hownA hchgA hblkA hcapA; have d3 := hchgA.cell (d2a _) HPN.out; have f3 := hchgA.free (d2a _) (free_al d2 f2 _) HPN.out; have d3a := fun o => cell_al d3 o)
            | (refine step_wp rfl ?_; refine wp_appR _ _ rfl (.slice qv rows.length capv) (rows.map (·.1)) rfl ?p1 _ [.slice (some ⟨gA, 0, none⟩) b.length capA] rfl ?p2 ?p3 (by simp) ?p4 ?_; (case p1 => exact HOB.out _ _ hchgA); (case p2 => exact Src.one _ _ _); (case p3 => (intro u hu; simp at hu; subst hu; rfl)); (case p4 => (simpa using hgl')); intro gB capB wB hownB hchgB hblkB hcapB; have d4 := hchgB.cell (d3a _) HVP.out; have f4 := hchgB.free (d3a _) (free_al d3 f3 _) HVP.out)))
          all_goals
            have hcA : Chg No w3 (wA.alloc (.cells #[.slice (some ⟨gA, 0, none⟩) b.length capA] 22)) := ((((Chg.refl No w3).alloc _).drew).then hchgA (fun i hi => .inr (by simp [Value.ownBlock] at hi; omega))).alloc _
            have hbB := hchgB.heap (hcA.heap HI3.out.blk (fun x => x)) HVP.out
            have hbC := set_blk hbB 2 (.slice (some ⟨gB, 0, none⟩) (rows.length + 1) capB)
            have hcC : Chg (In [pl]) wB (wB.setCell ⟨pl, 2, none⟩ (.slice (some ⟨gB, 0, none⟩) (rows.length + 1) capB)) := (Chg.refl _ wB).setCell (by simp) _
            have HG : Hid (∀ W, W.heap[pl]? = some (logObj pd { g with l := g.l ++ [b], good := g.good + ((b.length : Int) + 8) } (.slice (some ⟨gB, 0, none⟩) (rows.length + 1) capB)) → Chg (In [pl]) wB W →
                LogTo w W pl pd (logBlocks pl pd m fs (.slice qv rows.length capv) ++ rowBlocks rows) D3 { g with l := g.l ++ [b], good := g.good + ((b.length : Int) + 8) }) := fun W hW hcW =>
              HAF3.out _ _ _ (HI3.out.grown (row := .slice (some ⟨gA, 0, none⟩) b.length capA) hcA (by simpa using hownA.alloc _)
                (fun k hk => by
                  simp [Value.ownBlock] at hk
                  subst hk
                  rcases hblkA with e | e
                  · simp [Value.ownBlock] at e; omega
                  · simp at e; omega) (by omega) hchgB (by simpa using hownB)
                (fun k hk => by
                  simp [Value.ownBlock] at hk
                  subst hk
                  rcases hblkB with e | e
                  · exact .inl e
                  · exact .inr (by omega)) hcW hW)
            clear hownA hchgA hblkA hcapA d3 f3 d3a hownB hchgB hblkB hcapB d4 f4 hbB HOA HSB HVN HVP HOB HPN d2 f2 d2a hcA
            generalize wB.setCell ⟨pl, 2, none⟩ (.slice (some ⟨gB, 0, none⟩) (rows.length + 1) capB) = W at hbC hcC ⊢
            have g3 := cell_blk hbC 3
            have k3 := free_blk hbC 3
            simp only [List.getElem?_toArray, List.getElem?_cons_succ, List.getElem?_cons_zero, List.setIfInBounds_toArray, List.set_cons_succ, List.set_cons_zero] at g3
            have HBC := Lib.hid hbC
            have HCC := Lib.hid hcC
            clear hbC hcC
            go_wp2_with fail
            go_ret
            refine ⟨_, HE4.out, rfl, HG.out _ ?_ (HCC.out.setCell (p := ⟨pl, 3, none⟩) (.inl (List.mem_singleton.2 rfl)) _)⟩
            rw [set_blk HBC.out 3]
            simp [logObj]
        · have he' : (e3 == 0) = false := by simpa using he3
          have HCUT := Lib.hid (cutLog_calls HI3.out HF3.out (HS3.out.mono (by omega)))
          have HT := Lib.hid (fun w3 ht => (HI3.out.beneath (D := (D3.truncate g.name g.good).1) (W := w3) ht).1)
          rw [if_pos he3] at HE3'
          obtain ⟨⟨D2, R2⟩, hD2⟩ : ∃ x, x = D3.truncate g.name g.good := ⟨_, rfl⟩
          rw [← hD2] at HCUT HE3' HT
          clear hD2
          go_wp2_with fail
          refine HCUT.out.mono ?_
          rintro e w4 ⟨rfl, ht⟩
          cases R2 with
          | lost op => exact ⟨rfl, (D2, g, Res.lost op), HE3'.out.symm, rfl, HAF3.out _ _ _ (HT.out _ ht)⟩
          | ok x =>
            go_wp2_with fail
            go_ret
            exact ⟨(D2, g, Res.ok e3), HE3'.out.symm, rfl, HAF3.out _ _ _ (HT.out _ ht)⟩
    · have he' : (e1 == 0) = false := by simpa using he
      have HCUT := Lib.hid (cutLog_calls HI2.out HF1.out (HS1.out.mono (by omega)))
      have HT := Lib.hid (fun w3 ht => (HI2.out.beneath (D := (D1.truncate g.name g.good).1) (W := w3) ht).1)
      rw [if_pos he] at HE1'
      obtain ⟨⟨D2, R2⟩, hD2⟩ : ∃ x, x = D1.truncate g.name g.good := ⟨_, rfl⟩
      rw [← hD2] at HCUT HE1' HT
      clear hD2
      go_wp2_with fail
      refine HCUT.out.mono ?_
      rintro e w3 ⟨rfl, ht⟩
      cases R2 with
      | lost op => exact ⟨rfl, (D2, g, Res.lost op), HE1'.out.symm, rfl, HAF.out _ _ _ (HT.out _ ht)⟩
      | ok x =>
        go_wp2_with fail
        go_ret
        exact ⟨(D2, g, Res.ok e1), HE1'.out.symm, rfl, HAF.out _ _ _ (HT.out _ ht)⟩

theorem add_calls (vb : Value) (b : Bytes) (h : LogAt w pl pd d g F) (hbs : Bs w vb b) (hoff : Off (In F) vb) (hs : d.Sound 4611686018427380000) (hn : named g.name = true) (hnl : g.name.length ≤ 1000000)
    (hg0 : 0 ≤ g.good) (hg1 : g.good ≤ 1152921504606846976) (hgl : g.l.length ≤ 1000000000) :
    Calls Tryz.prog 46 #[.pointer (some ⟨pl, 0, none⟩), vb] w fun e w' => ∃ r, r = Log.add d g b ∧ e = endInt r.2.2 ∧ LogTo w w' pl pd F r.1 r.2.1 := by
  cases hf : fits b with
  | true =>
    obtain ⟨m, fs, vl, rows, h, rfl⟩ := h
    exact add_calls0 vb b h hbs hoff hs hn hnl hg0 hg1 hgl hf
  | false =>
    refine (add_bad _ vb b hbs hf).mono ?_
    rintro e w' ⟨rfl, rfl⟩
    exact ⟨(d, g, .ok 9), by unfold Log.add; rw [if_pos hf], rfl, LogTo.same h⟩
end
end Go.Proofs.YtgpmnicmgehmbaaGreatDoor


namespace Go.Proofs.YtgpmnicmgehmbaaGreatDoor
open Go.RowKit Lamp
set_option maxRecDepth 100000
set_option maxHeartbeats 400000

section
variable {w : World} {pl pd m : Nat} {d : Disk} {g : Log} {fs : List FR} {vl : Value} {rows : List (Value × Bytes)} {F : List Nat}

theorem logLen_calls (h : LogAt w pl pd d g F) : Calls Tryz.prog 16 #[.pointer (some ⟨pl, 0, none⟩)] w fun e w' => e = .returned (.int .i64 g.l.length) ∧ w = w' := by
  obtain ⟨m, fs, vl, rows, h, rfl⟩ := h
  obtain ⟨qv, capv, hv⟩ := h.own.slice
  rw [List.length_map] at hv
  subst hv
  have c2 : w.cell? ⟨pl, 2, none⟩ = some (.slice qv rows.length capv) := cell_blk h.blk 2
  have hl : g.l.length = rows.length := by rw [h.told]; simp
  rw [hl]
  clear h hl
  go_enter Tryz.func16, Tryz.ntmps16
  go_wp2_with fail
  go_ret
  exact ⟨rfl, rfl⟩

theorem logGood_calls (h : LogAt w pl pd d g F) : Calls Tryz.prog 17 #[.pointer (some ⟨pl, 0, none⟩)] w fun e w' => e = .returned (.int .i64 g.good) ∧ w = w' := by
  obtain ⟨m, fs, vl, rows, h, rfl⟩ := h
  have c3 : w.cell? ⟨pl, 3, none⟩ = some (.int .i64 g.good) := cell_blk h.blk 3
  clear h
  go_enter Tryz.func17, Tryz.ntmps17
  go_wp2_with fail
  go_ret
  exact ⟨rfl, rfl⟩

theorem walNamed_calls (w : World) (name : Bytes) (hn : named name = true) (hl : name.length ≤ 1000000) :
    Calls Tryz.prog 53 #[.string (ofL name)] w fun e w' => e = .returned (.bool true) ∧ Below w.heap.size w w' := by
  have HND := Lib.hid (newDisk_ok (w := w) 0 (by omega) (by omega))
  have HN := Lib.hid hn
  clear hn
  go_enter Tryz.func53, Tryz.ntmps53
  go_wp2_with fail
  refine HND.out.mono ?_
  rintro e w1 ⟨rfl, hb1, hm1, hbel⟩
  go_wp2_with fail
  have hD : DiskAt w1 (w.heap.size + 1) w.heap.size (Disk.new 0) [] :=
    ⟨hb1, ⟨#[], 0, hm1, by simp⟩, rfl, fun r hr => by simp at hr, by simp [diskBlocks]⟩
  refine (append_calls name (.slice none 0 0) [] hD HN.out hl (Bs.nil _) (fun k hk => by simp [Value.ownBlock] at hk) (by decide) (by decide) (by decide) (by decide) (by decide) (by decide) (fun f hf => by simp [Disk.new, fileOf] at hf)).mono ?_
  rintro e w2 ⟨fs', hd2, rfl, hc2, hm2⟩
  have hs : (Disk.append (Disk.new 0) name []).2 = .ok (0, 0) := by
    rw [Disk.append_eq _ _ _ HN.out]
    rfl
  rw [hs]
  dsimp only [endAppend]
  go_wp2_with fail
  go_ret
  exact ⟨rfl, ((Chg.of_below hbel).then hc2 (fun i hi => by simp [diskBlocks] at hi; exact .inr (by omega))).below⟩

theorem open_fresh (hD : DiskAt w pd m d []) (name : Bytes) (hn : named name = true) (hl : name.length ≤ 1000000) :
    Calls Tryz.prog 23 #[.pointer (some ⟨pd, 0, none⟩), .string (ofL name)] w fun e w' => ∃ pl F, e = .returned (.tuple #[.pointer (some ⟨pl, 0, none⟩), .int .i64 0]) ∧
      LogAt w' pl pd d ⟨name, [], 0⟩ F ∧ Below w.heap.size w w' ∧ ∀ k ∈ F, k = pd ∨ k = m ∨ w.heap.size ≤ k := by
  have hf : fileOf name d.files = none := by rw [hD.told]; rfl
  have HR := Lib.hid (read_none hD name hf)
  have HN := Lib.hid (walNamed_calls w name hn hl)
  go_enter Tryz.func23, Tryz.ntmps23
  go_wp2_with fail
  refine HR.out.mono ?_
  rintro e w1 ⟨rfl, rfl⟩
  go_wp2_with fail
  refine HN.out.mono ?_
  rintro e w2 ⟨rfl, hbel⟩
  go_wp2_with fail
  go_ret2
  have hc : Chg No w (w2.alloc (logObj pd ⟨name, [], 0⟩ (.slice none 0 0))) := (Chg.of_below hbel).alloc _
  have hsz := hbel.size
  refine ⟨w2.heap.size, _, rfl, ⟨m, [], .slice none 0 0, [], ⟨heap_alloc_new _ _, hD.old hc, Own.nil _ _, rfl, fun r hr => by simp at hr, fun hk => ?_, fun k hk => by simp [Value.ownBlock] at hk⟩, rfl⟩, hc.below, ?_⟩
  · have := hD.lt _ hk
    omega
  · intro k hk
    simp [logBlocks, diskBlocks, rowBlocks, Value.ownBlock] at hk
    rcases hk with rfl | rfl | rfl
    · exact .inr (.inr hsz)
    · exact .inl rfl
    · exact .inr (.inl rfl)

theorem Own.at {E : TypeId} {v : Value} {xs : List Value} (h : Own w E v xs) : ∀ i u, xs[i]? = some u → ∃ g cap, v = .slice (some ⟨g, 0, none⟩) xs.length cap ∧ w.cell? ⟨g, i, none⟩ = some u := by
  intro i u hu
  obtain ⟨hi, rfl⟩ := List.getElem?_eq_some_iff.1 hu
  obtain ⟨_, h2⟩ := h
  rcases h2 with ⟨rfl, h0⟩ | ⟨g, cap, cur, rfl, hb, hg, h3, h4, h5, h6⟩
  · omega
  · refine ⟨g, cap, rfl, ?_⟩
    rw [cell_blk hg]
    have h7 : (cur.toList.take (xs.length * 1))[i]? = xs[i]? := by rw [h6]
    rw [List.getElem?_take, if_pos (by omega)] at h7
    rw [← hu, ← h7]
    simp

theorem get_calls (h : LogAt w pl pd d g F) (i : Nat) (b : Bytes) (hi : g.l[i]? = some b) (hb : b ≠ []) :
    Calls Tryz.prog 29 #[.pointer (some ⟨pl, 0, none⟩), .int .i64 i] w fun e w' => ∃ v, e = .returned (.tuple #[v, .int .i64 0]) ∧ Bs w' v b ∧ (∀ k, v.ownBlock = some k → w.heap.size ≤ k) ∧ Below w.heap.size w w' := by
  obtain ⟨m, fs, vl, rows, h, rfl⟩ := h
  rw [h.told, List.getElem?_map] at hi
  obtain ⟨r, hr, rfl⟩ := Option.map_eq_some_iff.1 hi
  obtain ⟨gv, cap, hv, hc⟩ := h.own.at i r.1 (by rw [List.getElem?_map, hr]; rfl)
  rw [List.length_map] at hv
  subst hv
  have c2 : w.cell? ⟨pl, 2, none⟩ = some (.slice (some ⟨gv, 0, none⟩) rows.length cap) := cell_blk h.blk 2
  have hil : i < rows.length := (List.getElem?_eq_some_iff.1 hr).1
  have hil' : (i : Int) < rows.length := by omega
  have hi0 : decide ((i : Int) < 0) = false := by simp
  have hi1 : decide ((rows.length : Int) ≤ i) = false := by simpa using hil
  obtain ⟨hbs, hrb⟩ := h.each r (List.mem_of_getElem? hr)
  have HBS := Lib.hid hbs
  have HB := Lib.hid hb
  have HL : Hid (r.2.length ≤ 140737488355328) := by obtain ⟨_, _, _, _, hh, _⟩ := hbs; exact hh
  obtain ⟨qr, cr, hrv, _⟩ := hbs
  rw [hrv] at hc HBS
  have ca := fun o => cell_al c2 o
  have cb := fun o => cell_al hc o
  clear hi hr h hrb hil
  go_enter Tryz.func29, Tryz.ntmps29
  go_wp2_with (at_builtin; refine wpList_appB rfl _ _ rfl (.slice (some ⟨w.heap.size, 0, none⟩) 0 0) [] rfl ?o1 _ r.2 rfl ?o2 ?o3 ?o4 ?_; (case o1 => exact Own.lit w 5 #[] (by decide)); (case o2 => exact (HBS.out.chg ((Chg.refl No w).alloc _) (fun _ _ x => x)).src); (case o3 => exact HB.out); (case o4 => (simp; exact HL.out)); intro gA capA wA hownA hchgA hblkA hcapA)
  go_ret2
  simp only [List.length_nil, Nat.zero_add, List.nil_append] at hownA ⊢
  refine ⟨_, rfl, own_bytes hownA HL.out, fun k hk => ?_, (((Chg.refl No w).alloc _).then hchgA (fun i hi => ?_)).below⟩
  · simp [Value.ownBlock] at hk
    subst hk
    rcases hblkA with e | e
    · simp [Value.ownBlock] at e; omega
    · simp at e; omega
  · simp [Value.ownBlock] at hi
    exact .inr (by omega)
end
end Go.Proofs.YtgpmnicmgehmbaaGreatDoor


namespace Go.Proofs.YtgpmnicmgehmbaaGreatDoor
open Go.RowKit Lamp
set_option maxRecDepth 100000
set_option maxHeartbeats 400000
attribute [local go_sem] Oper.semAt_some

theorem at_alloc (w : World) (o : Obj) (k : Nat) : (w.alloc o).heap[k]? = if k = w.heap.size then some o else w.heap[k]? := by
  by_cases h : k = w.heap.size
  · subst h; rw [if_pos rfl]; exact heap_alloc_new w o
  · rw [if_neg h]
    show (w.heap.push o)[k]? = _
    rw [Array.getElem?_push, if_neg h]
/-- An object with a cell turned. -/
def Obj.put (i : Nat) (v : Value) : Obj → Obj
  | .cells c T fr => .cells (c.setIfInBounds i v) T fr
  | o => o
theorem at_set (w : World) (p i : Nat) (v : Value) (k : Nat) : (w.setCell ⟨p, i, none⟩ v).heap[k]? = if k = p then (w.heap[k]?).map (Obj.put i v) else w.heap[k]? := by
  by_cases h : k = p
  · subst h
    rw [if_pos rfl]
    show (w.heap.modify k _)[k]? = _
    rw [Array.getElem?_modify]
    simp only [↓reduceIte]
    congr 1
  · rw [if_neg h]
    exact Below.heap_setCell w ⟨p, i, none⟩ v k h

def nthOf (pre : List Bytes) (n : Int) : Bytes := if 1 ≤ n then pre.getD (n - 1).toNat [] else []
theorem nthOf_nil (n : Int) : nthOf [] n = [] := by simp [nthOf]
theorem nthOf_snoc (pre : List Bytes) (x : Bytes) (n : Int) : nthOf (pre ++ [x]) n = if (pre.length : Int) + 1 = n then x else nthOf pre n := by
  unfold nthOf
  by_cases h : (pre.length : Int) + 1 = n
  · subst h
    rw [if_pos (by omega), if_pos rfl]
    simp
  · rw [if_neg h]
    by_cases h1 : 1 ≤ n
    · rw [if_pos h1, if_pos h1]
      simp only [List.getD]
      by_cases hl : (n - 1).toNat < pre.length
      · rw [List.getElem?_append_left hl]
      · rw [List.getElem?_eq_none (l := pre) (by omega), List.getElem?_eq_none (by simp; omega)]
    · rw [if_neg h1, if_neg h1]

/-- What nth has in memory between two rounds: the number asked for, what was found, how many came. -/
structure NthAt (w : World) (B : Nat) (n : Int) (pre : List Bytes) (W : World) : Prop where
  n0 : W.heap[B]? = some (.cells #[.int .i64 n] 3 (0, 0))
  f0 : W.heap[B + 1]? = some (.cells #[.string (ofL (nthOf pre n))] 9 (0, 0))
  k0 : W.heap[B + 2]? = some (.cells #[.int .i64 pre.length] 3 (0, 0))
  chg : Chg No w W

theorem nth_calls {w : World} (s : Bytes) (sep : UInt8) (n : Int) (hg : Glob w) (hs : s.length < 4294967281) :
    Calls Tryz.prog 141 #[.string (ofL s), .int .u8 sep.toNat, .int .i64 n] w fun e w' => e = .returned (.tuple #[.string (ofL (nth s sep n)), .int .i64 (pieces sep s).length]) ∧ Chg No w w' := by
  obtain ⟨m, hm⟩ := hg.most
  refine (callsIn_wide (n := 3)).1 ?_
  refine callsIn_of_wp_marks Tryz.func141 rfl trivial ?_ rfl
  simp only [Tryz.ntmps141, List.size_toArray, List.length_cons, List.length_nil, Nat.reduceAdd, Nat.reduceSub, Array.replicate_succ, Array.replicate_zero, List.push_toArray, List.append_toArray, List.nil_append, List.cons_append]
  have hmB : 3 < w.heap.size := World.block_lt_of_cell? w _ hm
  gi_wp2
  refine ⟨trivial, ?_⟩
  refine (callsIn_wide.2 (between_calls _ s sep)).mono ?_
  rintro e w1 ⟨rfl, hw1⟩
  simp only [World.size_alloc, Nat.add_assoc, Nat.reduceAdd] at hw1 ⊢
  have hz : w1.heap.size = w.heap.size + 5 := by rw [hw1]; simp
  have hc : Chg No w w1 := by rw [hw1]; exact (((((Chg.refl No w).alloc _).alloc _).alloc _).alloc _).alloc _
  have hat : NthAt w w.heap.size n [] w1 := by
    refine ⟨?_, ?_, ?_, hc⟩
    · rw [hw1]; simp only [at_alloc, World.size_alloc, Nat.add_assoc, Nat.reduceAdd]; simp
    · rw [hw1, nthOf_nil]; simp only [at_alloc, World.size_alloc, Nat.add_assoc, Nat.reduceAdd]; simp; rfl
    · rw [hw1]; simp only [at_alloc, World.size_alloc, Nat.add_assoc, Nat.reduceAdd]; simp
  have hb3 : w1.heap[w.heap.size + 3]? = some (.cells #[.string (ofL s)] 9 (0, 0)) := by
    rw [hw1]; simp only [at_alloc, World.size_alloc, Nat.add_assoc, Nat.reduceAdd]; simp
  have hb4 : w1.heap[w.heap.size + 4]? = some (.cells #[.int .u8 sep.toNat] 5 (0, 0)) := by
    rw [hw1]; simp only [at_alloc, World.size_alloc, Nat.add_assoc, Nat.reduceAdd]; simp
  have HC := Lib.hid hc
  have HAT := Lib.hid hat
  have HZ := Lib.hid hz
  have HB3 := Lib.hid hb3
  have HB4 := Lib.hid hb4
  have HG := Lib.hid hmB
  have hm1 : w1.cell? ⟨3, 0, none⟩ = some (.int .i64 m) := hc.cell hm (fun x => x)
  have HM1 := Lib.hid hm1
  have HM := Lib.hid hm
  have HGL := Lib.hid hg
  clear hc hat hz hb3 hb4 hmB hm1 hm hg hw1
  gi_wp2
  refine wpIn_rangeBox (gf := 139) (lb := #[.pointer (some ⟨w.heap.size + 3, 0, none⟩), .pointer (some ⟨w.heap.size + 4, 0, none⟩)]) rfl (enters_of Tryz.func139 (by kernel_rfl) rfl)
    (fun x => .string (ofL x)) (w.heap.size + 3) (IterK (w.heap.size + 3)) (by rw [HZ.out]; omega) ?hK (pieces sep s) ?hseq (NthAt w w.heap.size n) ?hI HAT.out
    (fun x => { tmps := #[.string (ofL s), .int .u8 sep.toNat, .int .i64 n, undef, undef, .pointer (some ⟨w.heap.size, 0, none⟩), .string ⟨#[]⟩, .int .i64 0, .pointer (some ⟨w.heap.size + 1, 0, none⟩),
      .pointer (some ⟨w.heap.size + 2, 0, none⟩), .string (ofL x), .string (ofL s), .int .u8 sep.toNat, .func (.func 139) #[] #[.pointer (some ⟨w.heap.size + 3, 0, none⟩), .pointer (some ⟨w.heap.size + 4, 0, none⟩)],
      .string (ofL x), undef, undef, undef, undef, undef, undef, undef, undef], defers := [] }) ?assign ?body ?done
  case hK =>
    intro k hk
    rw [HZ.out]
    have := HG.out
    rcases hk with rfl | rfl | rfl <;> omega
  case hseq =>
    intro l J W hW hJ hY h0
    have hb3 := hW.heap HB3.out (fun x => x)
    have hb4 := hW.heap HB4.out (fun x => x)
    have hm1 := hW.cell HM1.out (fun x => x)
    exact iter_in _ l (w.heap.size + 3) sep s m hs (by have := HG.out; omega) J W hJ hY hb3 hb4 hm1 h0
  case hI =>
    rintro pre A B ⟨h1, h2, h3, h4⟩ hc
    have hz := HZ.out
    exact ⟨hc.heap h1 (by omega), hc.heap h2 (by omega), hc.heap h3 (by omega), h4.then hc (by rintro i (rfl | rfl | rfl) <;> right <;> omega)⟩
  case assign =>
    intro x W K hK
    gi_wp2
    exact hK
  case body =>
    rintro pre x W ⟨h1, h2, h3, h4⟩ hlen hsz
    have hpl := pieces_len sep s
    have hk1 : (pre.length : Int) < 4294967290 := by omega
    have hk0 : (0 : Int) ≤ pre.length := by omega
    have c0 := cell_blk h1 0
    have c1 := cell_blk h2 0
    have f1 := free_blk h2 0
    have c2 := cell_blk h3 0
    have f2 := free_blk h3 0
    simp only [List.getElem?_toArray, List.getElem?_cons_zero] at c0 c1 c2
    have hkz := HZ.out
    have e2 : (((pre ++ [x]).length : Nat) : Int) = (pre.length : Int) + 1 := by simp
    have HE := Lib.hid e2
    have HS := Lib.hid (nthOf_snoc pre x n)
    have H1 := Lib.hid h1
    have H2 := Lib.hid h2
    have H3 := Lib.hid h3
    have HKZ := Lib.hid hkz
    clear e2 h1 h2 h3 hlen hsz hpl hkz
    by_cases hn : (pre.length : Int) + 1 = n
    · have hn' : ((pre.length : Int) + 1 == n) = true := by simpa using hn
      have HN := Lib.hid hn
      clear hn
      gi_wp2
      refine ⟨?_, ?_, ?_, ?_, ?_⟩
      · intro k hk
        have hkz := HKZ.out
        have := HG.out
        simp only [at_set]
        rw [if_neg, if_neg] <;> (rcases hk with (rfl | rfl | rfl) | rfl | rfl <;> omega)
      · rw [at_set, if_neg (by omega), at_set, if_neg (by omega)]; exact H1.out
      · rw [at_set, if_pos rfl, at_set, if_neg (by omega), H2.out, HS.out, if_pos HN.out]; simp [Obj.put]
      · rw [at_set, if_neg (by omega), at_set, if_pos rfl, H3.out, HE.out]; simp [Obj.put]
      · exact (h4.setCell (.inr (by simp)) _).setCell (.inr (by simp)) _
    · have hn' : ((pre.length : Int) + 1 == n) = false := by simpa using hn
      have HN := Lib.hid hn
      clear hn
      gi_wp2
      refine ⟨?_, ?_, ?_, ?_, ?_⟩
      · intro k hk
        have hkz := HKZ.out
        have := HG.out
        simp only [at_set]
        rw [if_neg] <;> (rcases hk with (rfl | rfl | rfl) | rfl | rfl <;> omega)
      · rw [at_set, if_neg (by omega)]; exact H1.out
      · rw [at_set, if_neg (by omega), H2.out, HS.out, if_neg HN.out]
      · rw [at_set, if_pos rfl, H3.out, HE.out]; simp [Obj.put]
      · exact h4.setCell (.inr (by simp)) _
  case done =>
    rintro W ⟨h1, h2, h3, h4⟩ hd
    have c1 := cell_blk h2 0
    have c2 := cell_blk h3 0
    simp only [List.getElem?_toArray, List.getElem?_cons_zero] at c1 c2
    have HD := Lib.hid hd
    have H4 := Lib.hid h4
    clear h1 h2 h3 h4 hd
    have hmx : Tryz.prog.follows .mixedOrders = true := by kernel_rfl
    gi_wp2
    gi_region
    all_goals
      gi_wp2
      refine ⟨by simp, .inl ⟨_, _, rfl, run_takeDeferred HD.out, ?_⟩⟩
      refine ⟨_, results_tmp2 rfl _ _ _, ?_⟩
      exact ⟨rfl, (Chg.putObj (H4.out.drew) (.inr (by rw [HZ.out]; omega)) _)⟩

theorem strs_one (l : List Bytes) : ∀ u ∈ (l.map fun s => Value.string (ofL s)), u.oneCell' = true := by
  intro u hu
  simp only [List.mem_map] at hu
  obtain ⟨c, _, rfl⟩ := hu
  rfl
/-- A row of texts that the code owns. -/
abbrev strs (l : List Bytes) : List Value := l.map fun s => Value.string (ofL s)

theorem heap_old_al {w : World} {k : Nat} {o : Obj} (h : w.heap[k]? = some o) (o' : Obj) : (w.alloc o').heap[k]? = some o := ((Chg.refl No w).alloc o').heap h (fun x => x)

/-- What Split has in memory between two rounds: the row of what came. -/
structure SplitAt (w : World) (B : Nat) (pre : List Bytes) (W : World) : Prop where
  row : ∃ v, W.heap[B]? = some (.cells #[v] 115 (0, 0)) ∧ Own W 9 v (strs pre) ∧ ∀ k, v.ownBlock = some k → B + 5 ≤ k
  chg : Chg No w W

theorem split_calls0 {w : World} {v : Value} (b : Bytes) (hb : Bs w v b) (hg : Glob w) (hs : b.length < 4294967281) :
    Calls Tryz.prog 62 #[v] w fun e w' => (∃ u, e = .returned u ∧ Own w' 9 u (strs (split b)) ∧ ∀ k, u.ownBlock = some k → w.heap.size ≤ k) ∧ Chg No w w' := by
  obtain ⟨m, hm⟩ := hg.most
  have hcv := run_text (hb.chg (w' := w.alloc (.cells #[.slice none 0 0] 115)) ((Chg.refl No w).alloc _) (fun _ _ x => x))
  obtain ⟨p, cap, rfl, hb1, hb2, hb3, hb4⟩ := hb
  refine (callsIn_wide (n := 3)).1 ?_
  refine callsIn_of_wp_marks Tryz.func62 rfl trivial ?_ rfl
  simp only [Tryz.ntmps62, List.size_toArray, List.length_cons, List.length_nil, Nat.reduceAdd, Nat.reduceSub, Array.replicate_succ, Array.replicate_zero, List.push_toArray, List.append_toArray, List.nil_append, List.cons_append]
  have hmB : 3 < w.heap.size := World.block_lt_of_cell? w _ hm
  gi_wp2
  refine ⟨trivial, ?_⟩
  refine (callsIn_wide.2 (between_calls _ b 13)).mono ?_
  rintro e w1 ⟨rfl, hw1⟩
  simp only [World.size_alloc, Nat.add_assoc, Nat.reduceAdd] at hw1 ⊢
  have hz : w1.heap.size = w.heap.size + 3 := by rw [hw1]; simp
  have hc : Chg No w w1 := by rw [hw1]; exact (((Chg.refl No w).alloc _).alloc _).alloc _
  have hat : SplitAt w w.heap.size [] w1 := by
    refine ⟨⟨.slice none 0 0, ?_, Own.nil _ _, fun k hk => by simp [Value.ownBlock] at hk⟩, hc⟩
    rw [hw1]; simp only [at_alloc, World.size_alloc, Nat.add_assoc, Nat.reduceAdd]; simp
  have hb3 : w1.heap[w.heap.size + 1]? = some (.cells #[.string (ofL b)] 9 (0, 0)) := by
    rw [hw1]; simp only [at_alloc, World.size_alloc, Nat.add_assoc, Nat.reduceAdd]; simp
  have hb4 : w1.heap[w.heap.size + 2]? = some (.cells #[.int .u8 ((13 : UInt8).toNat : Int)] 5 (0, 0)) := by
    rw [hw1]; simp only [at_alloc, World.size_alloc, Nat.add_assoc, Nat.reduceAdd]; simp
  have HC := Lib.hid hc
  have HAT := Lib.hid hat
  have HZ := Lib.hid hz
  have HB3 := Lib.hid hb3
  have HB4 := Lib.hid hb4
  have HG := Lib.hid hmB
  have hm1 : w1.cell? ⟨3, 0, none⟩ = some (.int .i64 m) := hc.cell hm (fun x => x)
  have HM1 := Lib.hid hm1
  have HM := Lib.hid hm
  have HGL := Lib.hid hg
  clear hc hat hz hb3 hb4 hmB hm1 hm hg hw1 hcv
  gi_wp2
  refine wpIn_rangeBox (gf := 139) (lb := #[.pointer (some ⟨w.heap.size + 1, 0, none⟩), .pointer (some ⟨w.heap.size + 2, 0, none⟩)]) rfl (enters_of Tryz.func139 (by kernel_rfl) rfl)
    (fun x => .string (ofL x)) (w.heap.size + 1) (IterK (w.heap.size + 1)) (by rw [HZ.out]; omega) ?hK (pieces 13 b) ?hseq (SplitAt w w.heap.size) ?hI HAT.out
    (fun x => { tmps := #[.slice p b.length cap, undef, .slice none 0 0, .pointer (some ⟨w.heap.size, 0, none⟩), .string (ofL x), undef, .slice p b.length cap, .string (ofL b),
      .func (.func 139) #[] #[.pointer (some ⟨w.heap.size + 1, 0, none⟩), .pointer (some ⟨w.heap.size + 2, 0, none⟩)],
      .string (ofL x), undef, undef, undef, undef, undef, undef, undef, undef, undef, undef, undef, undef, undef, undef, undef, undef], defers := [] }) ?assign ?body ?done
  case hK =>
    intro k hk
    rw [HZ.out]
    have := HG.out
    rcases hk with rfl | rfl | rfl <;> omega
  case hseq =>
    intro l J W hW hJ hY h0
    have hb3 := hW.heap HB3.out (fun x => x)
    have hb4 := hW.heap HB4.out (fun x => x)
    have hm1 := hW.cell HM1.out (fun x => x)
    exact iter_in _ l (w.heap.size + 1) 13 b m hs (by have := HG.out; omega) J W hJ hY hb3 hb4 hm1 h0
  case hI =>
    rintro pre A B ⟨⟨u, h1, h2, h3⟩, h4⟩ hc
    have hz := HZ.out
    refine ⟨⟨u, hc.heap h1 (by omega), h2.kept hc ?_, h3⟩, h4.then hc (by rintro i (rfl | rfl | rfl) <;> right <;> omega)⟩
    intro k hk
    have := h3 k hk
    omega
  case assign =>
    intro x W K hK
    gi_wp2
    exact hK
  case body =>
    rintro pre x W ⟨⟨u, h1, h2, h3⟩, h4⟩ hlen hsz
    have hpl := pieces_len 13 b
    have hk1 : pre.length < 4294967290 := by omega
    have c0 := cell_blk h1 0
    simp only [List.getElem?_toArray, List.getElem?_cons_zero] at c0
    have hkz := HZ.out
    have H1 := Lib.hid h1
    have H2 := Lib.hid h2
    have H3 := Lib.hid h3
    have HKZ := Lib.hid hkz
    have HSZ := Lib.hid hsz
    have HK1 := Lib.hid hk1
    clear h1 h2 h3 hlen hsz hpl hkz hk1
    gi_wp2_with (gi_at_builtin; refine wpListIn_app1 rfl _ _ 115 rfl 9 (.string ⟨#[]⟩) 16 Tryz.underlying115 elem_string rfl u (strs pre) rfl (H2.out.alloc _) _ [.string (ofL x)] rfl (Src.one _ _ _) (strs_one [x]) (by simp) (by have := HK1.out; simp; omega) (by have := HK1.out; simp [maxLen]; omega) ?_; intro g cp w2 hown2 hchg2 hblk hcap; clear c0; have hb2 : w2.heap[w.heap.size]? = some (.cells #[u] 115 (0, 0)) := hchg2.heap ((heap_old_al H1.out _)) (fun h => by have := H3.out _ h; omega); have c2 := cell_blk hb2 0; have f2 := free_blk hb2 0; simp only [List.getElem?_toArray, List.getElem?_cons_zero] at c2; have HB2 := Lib.hid hb2; clear hb2)
    have hkz := HKZ.out
    have hsz := HSZ.out
    have hWz : W.heap.size + 1 ≤ w2.heap.size := by have := hchg2.size; simpa using this
    have hg5 : w.heap.size + 5 ≤ g := by
      rcases hblk with h | h
      · exact H3.out _ h
      · simp at h; omega
    have hcW : Chg (fun k => u.ownBlock = some k) W w2 := ((Chg.refl _ W).alloc _).trans hchg2
    refine ⟨?_, ⟨⟨.slice (some ⟨g, 0, none⟩) (pre.length + 1) cp, ?_, ?_, ?_⟩, ?_⟩⟩
    · intro k hk
      have := HG.out
      have hkl : k ≠ w.heap.size ∧ k < w.heap.size + 5 := by rcases hk with (rfl | rfl | rfl) | rfl | rfl <;> omega
      rw [at_set, if_neg hkl.1]
      exact hcW.block k (by omega) (fun h => by have := H3.out _ h; omega)
    · rw [at_set, if_pos rfl, HB2.out]; simp [Obj.put]
    · have h5 := hown2.kept (S := fun k => k = w.heap.size) ((Chg.refl (fun k => k = w.heap.size) w2).setCell (p := ⟨w.heap.size, 0, none⟩) (.inl rfl) (.slice (some ⟨g, 0, none⟩) (pre.length + 1) cp)) (by intro k hk; simp [Value.ownBlock] at hk; omega)
      simpa [strs] using h5
    · intro k hk
      simp [Value.ownBlock] at hk
      omega
    · exact (h4.then hcW (by intro i hi; right; have := H3.out _ hi; omega)).setCell (.inr (Nat.le_refl _)) _
  case done =>
    rintro W ⟨⟨u, h1, h2, h3⟩, h4⟩ hd
    have hz := HZ.out
    have hne := List.length_pos_iff.2 (pieces_ne 13 b)
    have hpl := pieces_len 13 b
    obtain ⟨k, hk⟩ : ∃ k, (pieces 13 b).length = k + 1 := ⟨(pieces 13 b).length - 1, by omega⟩
    have hk1 : k < 4294967290 := by omega
    obtain ⟨g, cp, rfl, hcell⟩ := h2.at k (.string (ofL ((pieces 13 b).getD k []))) (by simp [hk])
    have hown := h2
    have hlst : (pieces 13 b).getLast? = some ((pieces 13 b).getD k []) := by
      rw [List.getLast?_eq_getElem?, hk]; simp [hk]
    have hsp : split b = if (pieces 13 b).getD k [] = [] then (pieces 13 b).take k else pieces 13 b := by
      unfold split
      rw [hlst]
      simp only [Option.some.injEq]
      split
      · rw [List.dropLast_eq_take, hk]; simp
      · rfl
    have c0 := cell_blk h1 0
    have f0 := free_blk h1 0
    simp only [List.getElem?_toArray, List.getElem?_cons_zero] at c0
    simp only [List.length_map, hk] at c0 hcell
    have hlen : (strs (pieces 13 b)).length = k + 1 := by simp [hk]
    obtain ⟨q', cp', hv', hle', _, _, hshort⟩ := h2.short k (by omega)
    simp only [Value.slice.injEq] at hv'
    obtain ⟨rfl, _, rfl⟩ := hv'
    have hcp : (k : Int) ≤ cp := by omega
    have hg5 : w.heap.size + 5 ≤ g := h3 g rfl
    have hz := HZ.out
    rw [← List.map_take] at hshort
    have HSH := Lib.hid hshort
    have HG5 := Lib.hid hg5
    clear hshort hle' hg5 hz
    have HD := Lib.hid hd
    have H4 := Lib.hid h4
    have H1 := Lib.hid h1
    have H2 := Lib.hid h2
    have H3 := Lib.hid h3
    generalize (pieces 13 b).getD k [] = x at hcell hsp
    have HSP := Lib.hid hsp
    have HLEN := Lib.hid hlen
    clear h1 h2 h3 h4 hd hown hlst hsp hlen hpl hne hz
    by_cases hl : x = []
    · rw [hl] at hcell
      have HK := Lib.hid hk
      have HL := Lib.hid hl
      clear hk hl
      gi_wp2
      have hz := HZ.out
      have hg5 := HG5.out
      refine ⟨by simp, .inl ⟨_, _, rfl, run_takeDeferred (set_other HD.out _ _ (by omega)), ?_⟩⟩
      refine ⟨_, results_tmp rfl _ _ _, ⟨_, rfl, ?_, ?_⟩, ?_⟩
      · rw [HSP.out, if_pos HL.out]
        exact HSH.out.kept (S := fun k => k = w.heap.size ∨ k = w1.heap.size) (((Chg.refl (fun k => k = w.heap.size ∨ k = w1.heap.size) W).setCell (p := ⟨w.heap.size, 0, none⟩) (.inl (.inl rfl)) _).putObj (.inl (.inr rfl)) _) (by intro k hk; simp [Value.ownBlock] at hk; omega)
      · intro k hk
        have hk : g = k := by simpa [Value.ownBlock] using hk
        omega
      · exact ((H4.out.setCell (p := ⟨w.heap.size, 0, none⟩) (.inr (Nat.le_refl _)) _).putObj (.inr (by omega)) _)
    · have hl' : x.isEmpty = false := by simpa using hl
      have HK := Lib.hid hk
      have HL := Lib.hid hl
      clear hk hl
      gi_wp2
      have hz := HZ.out
      have hg5 := HG5.out
      refine ⟨by simp, .inl ⟨_, _, rfl, run_takeDeferred HD.out, ?_⟩⟩
      refine ⟨_, results_tmp rfl _ _ _, ⟨_, rfl, ?_, ?_⟩, ?_⟩
      · rw [HSP.out, if_neg HL.out]
        have h5 := H2.out.kept (S := fun k => k = w1.heap.size) ((Chg.refl (fun k => k = w1.heap.size) W).putObj (.inl rfl) (Obj.deferred none)) (by intro k hk; simp [Value.ownBlock] at hk; omega)
        rw [HLEN.out] at h5
        exact h5
      · intro k hk
        have hk : g = k := by simpa [Value.ownBlock] using hk
        omega
      · exact H4.out.putObj (.inr (by omega)) _
end Go.Proofs.YtgpmnicmgehmbaaGreatDoor


namespace Go.Proofs.YtgpmnicmgehmbaaGreatDoor
open Go.RowKit Lamp
set_option maxRecDepth 100000
set_option maxHeartbeats 400000

theorem ofL_take (l : Bytes) (n : Nat) : (ofL l).extract 0 n = ofL (l.take n) := by
  apply ByteArray.ext
  apply Array.ext'
  simp [ofL]

theorem name_calls (w : World) (s : Bytes) (hs : s.length < 4294967281) : Calls Tryz.prog 63 #[.string (ofL s)] w fun e w' => e = .returned (.string (ofL (segName s))) ∧ w = w' := by
  have hx : (ofL s).extract 0 (min ((s.length : Nat) : Int) 3).toNat = ofL (segName s) := by
    rw [ofL_take]
    unfold segName
    congr 1
    by_cases h : s.length ≤ 3
    · rw [show (min ((s.length : Nat) : Int) 3).toNat = s.length by omega, List.take_length, List.take_of_length_le h]
    · rw [show (min ((s.length : Nat) : Int) 3).toNat = 3 by omega]
  have HX := Lib.hid hx
  clear hx
  go_enter Tryz.func63, Tryz.ntmps63
  go_wp2_with fail
  go_ret
  exact ⟨by rw [← HX.out]; rfl, rfl⟩

theorem again_calls {w : World} (f : Bytes) (n : Int) (d : Delims) (hg : Glob w) (hf : f.length < 4294967281) :
    Calls Tryz.prog 199 #[.string (ofL f), .int .i64 n, dv d] w fun e w' => e = .returned (.tuple #[.string (ofL (nth f d.again n)), .bool (decide (1 ≤ n) && decide (n ≤ (pieces d.again f).length))]) ∧ Chg No w w' := by
  have HN := Lib.hid (fun w1 => nth_calls (w := w1) f d.again n)
  unfold dv
  go_enter Tryz.func199, Tryz.ntmps199
  go_wp2_with fail
  refine (HN.out _ (hg.no ((Chg.refl No w).alloc _)) hf).mono ?_
  rintro e w1 ⟨rfl, hc⟩
  have HC := Lib.hid (((Chg.refl No w).alloc _).trans hc)
  clear hc
  by_cases hn : 1 ≤ n
  all_goals
    go_wp2_with fail
    go_ret2
    exact ⟨by first | (rw [decide_eq_true hn]; rfl) | (rw [decide_eq_false (by omega : ¬ 1 ≤ n)]; rfl), HC.out⟩

/-- The first component of the first repetition. -/
theorem part_calls {w : World} (f : Bytes) (d : Delims) (hg : Glob w) (hf : f.length < 4294967281) :
    Calls Tryz.prog 179 #[.string (ofL f), .int .i64 1, .int .i64 1, dv d] w fun e w' => e = .returned (.tuple #[.string (ofL (first f d)), .bool true]) ∧ Chg No w w' := by
  have HN := Lib.hid (fun w1 => nth_calls (w := w1) (nth f d.again 1) d.part 1)
  have HA := Lib.hid (fun w1 => again_calls (w := w1) f 1 d)
  have hp1 := List.length_pos_iff.2 (pieces_ne d.again f)
  have hp2 := List.length_pos_iff.2 (pieces_ne d.part (nth f d.again 1))
  have hb : (decide (1 ≤ (1 : Int)) && decide ((1 : Int) ≤ (pieces d.again f).length)) = true := by simp; omega
  rw [hb] at HA
  have hp2' : decide ((1 : Int) ≤ (pieces d.part (nth f d.again 1)).length) = true := by simp; omega
  have hfl : (nth f d.again 1).length < 4294967281 := by
    unfold nth
    simp only [Int.le_refl, ↓reduceIte, Int.sub_self, Int.toNat_zero]
    have : (pieces d.again f).getD 0 [] ∈ pieces d.again f := by
      rw [List.getD_eq_getElem?_getD, List.getElem?_eq_getElem hp1]
      exact List.getElem_mem _
    have := pieces_each d.again f _ this
    omega
  have HFL := Lib.hid hfl
  have HF : first f d = nth (nth f d.again 1) d.part 1 := rfl
  have HFF := Lib.hid HF
  clear hb hp1 hp2 hfl HF
  unfold dv at HA ⊢
  generalize nth f d.again 1 = f1 at HN HA HFL HFF hp2'
  go_enter Tryz.func179, Tryz.ntmps179
  go_wp2_with fail
  refine (HA.out _ (hg.no ((Chg.refl No w).alloc _)) hf).mono ?_
  rintro e w1 ⟨rfl, hc⟩
  have hC := ((Chg.refl No w).alloc (.cells #[.int .u8 (d.field.toNat : Int), .int .u8 (d.part.toNat : Int), .int .u8 (d.again.toNat : Int), .int .u8 (d.esc.toNat : Int), .int .u8 (d.sub.toNat : Int)] 110)).trans hc
  have c1 := cell_blk (hc.heap (heap_alloc_new _ _) (fun x => x)) 1
  simp only [List.getElem?_toArray, List.getElem?_cons_succ, List.getElem?_cons_zero] at c1
  have HC := Lib.hid hC
  clear hc hC
  go_wp2_with fail
  refine (HN.out _ (hg.no HC.out) HFL.out).mono ?_
  rintro e w2 ⟨rfl, hc2⟩
  have HC2 := Lib.hid (HC.out.trans hc2)
  clear hc2 HC
  go_wp2_with fail
  go_ret2
  exact ⟨by rw [HFF.out]; rfl, HC2.out⟩

/-- The signs' box, in whatever world comes behind. -/
theorem dv_box {w w1 : World} {a0 a1 a2 a3 a4 : Value} (h : Chg No (w.alloc (.cells #[a0, a1, a2, a3, a4] 110)) w1) : w1.cell? ⟨w.heap.size, 0, none⟩ = some a0 ∧ w1.cell? ⟨w.heap.size, 1, none⟩ = some a1 ∧ w1.cell? ⟨w.heap.size, 2, none⟩ = some a2 ∧ w1.cell? ⟨w.heap.size, 3, none⟩ = some a3 ∧ w1.cell? ⟨w.heap.size, 4, none⟩ = some a4 := by
  have hb := h.heap (heap_alloc_new w _) (fun x => x)
  exact ⟨cell_blk hb 0, cell_blk hb 1, cell_blk hb 2, cell_blk hb 3, cell_blk hb 4⟩

theorem nth_len (s : Bytes) (sep : UInt8) (n : Int) : (nth s sep n).length ≤ s.length := by
  unfold nth
  split
  · rw [List.getD_eq_getElem?_getD]
    cases h : (pieces sep s)[(n - 1).toNat]? with
    | none => simp
    | some x =>
      obtain ⟨hi, rfl⟩ := List.getElem?_eq_some_iff.1 h
      simpa using pieces_each sep s _ (List.getElem_mem hi)
  · simp

theorem ofL_app (a b : Bytes) : ofL a ++ ofL b = ofL (a ++ b) := by
  apply ByteArray.ext
  simp [ofL]

theorem field_other {w : World} (s : Bytes) (n : Int) (d : Delims) (hg : Glob w) (hs : s.length < 4294967281) (hm : segName s ≠ msh) :
    Calls Tryz.prog 94 #[.string (ofL s), .int .i64 n, dv d] w fun e w' => e = .returned (.tuple #[.string (ofL (field0 s n d).1), .int .i64 (field0 s n d).2]) ∧ Chg No w w' := by
  have HNM := Lib.hid (fun w1 => name_calls w1 s hs)
  have HCT := Lib.hid (fun w1 (h : Glob w1) => cut_calls1 h s d.field hs)
  have hl := cutAt_len d.field s
  have hl2 : (cutAt d.field s).2.1.length < 4294967281 := by omega
  have HN := Lib.hid (fun w1 h => nth_calls (w := w1) (cutAt d.field s).2.1 d.field n h hl2)
  have hsp : field0 s n d = if (cutAt d.field s).2.2 = true then (nth (cutAt d.field s).2.1 d.field n, ((pieces d.field (cutAt d.field s).2.1).length : Int)) else ([], 0) := by
    unfold field0
    rw [if_pos hm, behind_cut]
    cases (cutAt d.field s).2.2 <;> rfl
  have hm' : (segName s == [77, 83, 72]) = false := by simpa [msh] using hm
  have HSP := Lib.hid hsp
  clear hl hl2 hsp hm
  have hcv := run_sign (w.alloc (.cells #[.int .u8 (d.field.toNat : Int), .int .u8 (d.part.toNat : Int), .int .u8 (d.again.toNat : Int), .int .u8 (d.esc.toNat : Int), .int .u8 (d.sub.toNat : Int)] 110)) d.field
  simp only [World.size_alloc] at hcv
  unfold dv
  go_enter Tryz.func94, Tryz.ntmps94
  go_wp2_with fail
  refine (HNM.out _).mono ?_
  rintro e w1 ⟨rfl, rfl⟩
  go_wp2_with fail
  refine (HCT.out _ (hg.no (((Chg.refl No w).alloc _).alloc _))).mono ?_
  rintro e w2 ⟨rfl, q, rfl⟩
  have hcD := ((Chg.refl No (w.alloc (.cells #[.int .u8 (d.field.toNat : Int), .int .u8 (d.part.toNat : Int), .int .u8 (d.again.toNat : Int), .int .u8 (d.esc.toNat : Int), .int .u8 (d.sub.toNat : Int)] 110))).alloc (.cells #[.int .u8 (d.field.toNat : Int)] 5)).drewN q
  have k0 := (dv_box hcD).1
  have HC := Lib.hid (((Chg.refl No w).alloc (.cells #[.int .u8 (d.field.toNat : Int), .int .u8 (d.part.toNat : Int), .int .u8 (d.again.toNat : Int), .int .u8 (d.esc.toNat : Int), .int .u8 (d.sub.toNat : Int)] 110)).trans hcD)
  clear hcD hcv HCT
  cases hf : (cutAt d.field s).2.2 with
  | false =>
    go_wp2_with fail
    go_ret2
    exact ⟨by rw [HSP.out, hf]; rfl, HC.out⟩
  | true =>
    go_wp2_with fail
    refine (HN.out _ (hg.no HC.out)).mono ?_
    rintro e w3 ⟨rfl, hc3⟩
    have HC3 := Lib.hid (HC.out.trans hc3)
    clear hc3 HC k0
    go_wp2_with fail
    go_ret2
    exact ⟨by rw [HSP.out, hf]; rfl, HC3.out⟩

theorem field_msh {w : World} (s : Bytes) (n : Int) (d : Delims) (hg : Glob w) (hs : s.length < 4294967281) (hm : segName s = msh) (hn : 1 ≤ n) (hn2 : n ≤ 1000000) :
    Calls Tryz.prog 94 #[.string (ofL s), .int .i64 n, dv d] w fun e w' => e = .returned (.tuple #[.string (ofL (field0 s n d).1), .int .i64 (field0 s n d).2]) ∧ Chg No w w' := by
  have HNM := Lib.hid (fun w1 => name_calls w1 s hs)
  obtain ⟨r, rfl⟩ : ∃ r, s = 77 :: 83 :: 72 :: r := by
    unfold segName at hm
    rcases s with _ | ⟨a, _ | ⟨b, _ | ⟨c, r⟩⟩⟩ <;> simp [msh] at hm
    obtain ⟨rfl, rfl, rfl⟩ := hm
    exact ⟨r, rfl⟩
  have hcv := run_sign (w.alloc (.cells #[.int .u8 (d.field.toNat : Int), .int .u8 (d.part.toNat : Int), .int .u8 (d.again.toNat : Int), .int .u8 (d.esc.toNat : Int), .int .u8 (d.sub.toNat : Int)] 110)) d.field
  simp only [World.size_alloc] at hcv
  have hap : (⟨#[77, 83, 72]⟩ : ByteArray) ++ ofL [d.field] = ofL [77, 83, 72, d.field] := ofL_app [77, 83, 72] [d.field]
  have HCP := Lib.hid (fun w1 => Tryz.strings_CutPrefix (ofL (77 :: 83 :: 72 :: r)) (ofL [77, 83, 72, d.field]) w1)
  have hm' : (segName (77 :: 83 :: 72 :: r) == [77, 83, 72]) = true := by rw [hm]; rfl
  have hr : r.length < 4294967281 := by simp at hs; omega
  have hsp0 : field0 (77 :: 83 :: 72 :: r) n d = if r.head? = some d.field then (if n = 1 then [d.field] else nth r.tail d.field (n - 1), ((pieces d.field r.tail).length : Int) + 1) else ([], 0) := by
    unfold field0
    rw [if_neg (by simp [hm])]
    cases r <;> simp
  clear hm
  unfold dv
  by_cases hr0 : r.head? = some d.field
  · obtain ⟨r', rfl⟩ : ∃ r', r = d.field :: r' := by
      cases r with
      | nil => simp at hr0
      | cons c r' => simp at hr0; exact ⟨r', by rw [hr0]⟩
    have hp : Lib.hasPrefix (77 :: 83 :: 72 :: d.field :: r') [77, 83, 72, d.field] = true := by simp [Lib.hasPrefix]
    have ht : Lib.trimPrefix (77 :: 83 :: 72 :: d.field :: r') [77, 83, 72, d.field] = r' := by simp [Lib.trimPrefix, Lib.hasPrefix]
    simp only [ofL_data, hp, ht] at HCP
    rw [if_pos hr0] at hsp0
    simp only [List.tail_cons] at hsp0
    have hr' : r'.length < 4294967281 := by simp at hr; omega
    have HN := Lib.hid (fun w1 h => nth_calls (w := w1) r' d.field (n - 1) h hr')
    have hpl := pieces_len d.field r'
    have hpl2 : ((pieces d.field r').length : Int) < 4294967290 := by omega
    have hpl3 : 0 ≤ ((pieces d.field r').length : Int) := by omega
    have HSP := Lib.hid hsp0
    have hcw := run_sign
    clear hsp0 hr0 hp ht hr' hpl
    have hne : ∀ w1, Chg No ((w.alloc (.cells #[.int .u8 (d.field.toNat : Int), .int .u8 (d.part.toNat : Int), .int .u8 (d.again.toNat : Int), .int .u8 (d.esc.toNat : Int), .int .u8 (d.sub.toNat : Int)] 110))) w1 → w1.cell? ⟨w.heap.size, 0, none⟩ = some (.int .u8 (d.field.toNat : Int)) := fun w1 h => (dv_box h).1
    have HNE := Lib.hid hne
    clear hne
    by_cases hn1 : n = 1
    · subst hn1
      simp only [Int.sub_self] at HN
      go_enter Tryz.func94, Tryz.ntmps94
      go_wp2_with fail
      refine (HNM.out _).mono ?_
      rintro e w1 ⟨rfl, rfl⟩
      go_wp2_with fail
      refine (HCP.out _).mono ?_
      rintro e w2 ⟨rfl, rfl⟩
      go_wp2_with fail
      refine (HN.out _ (hg.no (((Chg.refl No w).alloc _).alloc _))).mono ?_
      rintro e w3 ⟨rfl, hc3⟩
      have k0 := HNE.out w3 (((Chg.refl No _).alloc _).trans hc3)
      have HC3 := Lib.hid ((((Chg.refl No w).alloc _).alloc _).trans hc3)
      have hcv3 := run_sign w3 d.field
      clear hc3 hcv
      go_wp2_with fail
      go_ret2
      exact ⟨by rw [HSP.out]; rfl, HC3.out.alloc _⟩
    · have hn' : (n == 1) = false := by simpa using hn1
      have HN1 := Lib.hid hn1
      clear hn1
      go_enter Tryz.func94, Tryz.ntmps94
      go_wp2_with fail
      refine (HNM.out _).mono ?_
      rintro e w1 ⟨rfl, rfl⟩
      go_wp2_with fail
      refine (HCP.out _).mono ?_
      rintro e w2 ⟨rfl, rfl⟩
      go_wp2_with fail
      refine (HN.out _ (hg.no (((Chg.refl No w).alloc _).alloc _))).mono ?_
      rintro e w3 ⟨rfl, hc3⟩
      have HC3 := Lib.hid ((((Chg.refl No w).alloc _).alloc _).trans hc3)
      clear hc3 hcv
      go_wp2_with fail
      go_ret2
      exact ⟨by rw [HSP.out, if_neg HN1.out]; rfl, HC3.out⟩
  · have hp : Lib.hasPrefix (77 :: 83 :: 72 :: r) [77, 83, 72, d.field] = false := by
      rw [Bool.eq_false_iff]
      intro h0
      apply hr0
      cases r with
      | nil => simp [Lib.hasPrefix] at h0
      | cons c r' => simp [Lib.hasPrefix] at h0; simp [h0]
    simp only [ofL_data, hp] at HCP
    rw [if_neg hr0] at hsp0
    have HSP := Lib.hid hsp0
    clear hsp0 hr0 hp
    go_enter Tryz.func94, Tryz.ntmps94
    go_wp2_with fail
    refine (HNM.out _).mono ?_
    rintro e w1 ⟨rfl, rfl⟩
    go_wp2_with fail
    refine (HCP.out _).mono ?_
    rintro e w2 ⟨rfl, rfl⟩
    go_wp2_with fail
    go_ret2
    exact ⟨by rw [HSP.out]; rfl, ((Chg.refl No w).alloc _).alloc _⟩

theorem field0_calls {w : World} (s : Bytes) (n : Int) (d : Delims) (hg : Glob w) (hs : s.length < 4294967281) (hn : 1 ≤ n) (hn2 : n ≤ 1000000) :
    Calls Tryz.prog 94 #[.string (ofL s), .int .i64 n, dv d] w fun e w' => e = .returned (.tuple #[.string (ofL (field0 s n d).1), .int .i64 (field0 s n d).2]) ∧ Chg No w w' := by
  by_cases hm : segName s = msh
  · exact field_msh s n d hg hs hm hn hn2
  · exact field_other s n d hg hs hm

theorem field_calls {w : World} (s : Bytes) (n : Int) (d : Delims) (hg : Glob w) (hs : s.length < 4294967281) (hn : 1 ≤ n) (hn2 : n ≤ 1000000) :
    Calls Tryz.prog 64 #[.string (ofL s), .int .i64 n, dv d] w fun e w' => e = .returned (.tuple #[.string (ofL (field s n d)), .bool (fieldIs s n d)]) ∧ Chg No w w' := by
  have HF := Lib.hid (fun w1 h => field0_calls (w := w1) s n d h hs hn hn2)
  have h1 : field s n d = (field0 s n d).1 := by unfold field; rw [if_neg (by omega)]
  have h2 : fieldIs s n d = decide (n ≤ (field0 s n d).2) := by unfold fieldIs; rw [decide_eq_true hn]; rfl
  rw [h1, h2]
  clear h1 h2
  have hn1 : decide (n < 1) = false := by simp; omega
  generalize field0 s n d = p at HF
  obtain ⟨f, k⟩ := p
  unfold dv at HF ⊢
  go_enter Tryz.func64, Tryz.ntmps64
  go_wp2_with fail
  refine (HF.out _ (hg.no ((Chg.refl No w).alloc _))).mono ?_
  rintro e w1 ⟨rfl, hc⟩
  have HC := Lib.hid (((Chg.refl No w).alloc _).trans hc)
  clear hc
  go_wp2_with fail
  go_ret2
  exact ⟨rfl, HC.out⟩
end Go.Proofs.YtgpmnicmgehmbaaGreatDoor
