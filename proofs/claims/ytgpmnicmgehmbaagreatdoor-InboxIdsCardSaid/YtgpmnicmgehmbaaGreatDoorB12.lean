/- An inbox: Take.
   The law: begin, right.
   The law's witness that the inbox is alive: what the plain inbox answers.
   The law: alive. -/
import Derived.Test.YtgpmnicmgehmbaaGreatDoorB11
import Derived.Lib.ConvBytes
import Derived.OwnWalk

namespace Go.Proofs.YtgpmnicmgehmbaaGreatDoor
open Go.RowKit Lamp Go.Conc
set_option maxRecDepth 100000
set_option maxHeartbeats 1000000

theorem Own.sliceOf {w : World} {E : TypeId} {v : Value} {xs : List Value} (h : Own w E v xs) : ∃ q cap, v = .slice q xs.length cap := by
  rcases h.2 with ⟨h1, h2⟩ | ⟨g, cap, cur, h1, _⟩
  · exact ⟨none, 0, by rw [h1, show xs.length = 0 from h2]⟩
  · exact ⟨_, cap, by simpa using h1⟩

theorem RunsTo.app {P : Program} {ops : Array Oper} {Q : Exit → Act → World → Prop} {a : Act} {w : World} {i : Nat} {rest : List Nat} {o : Oper} {s x : Operand} {t ty : TypeId} {v vx v' : Value} {w' : World} (ho : ops[i]? = some o) (hg : o.guard = none)
    (hop : o.op = .call { callee := .builtin .append, args := #[s, x], argTypes := #[t, t] }) (hs : a.eval s = v) (hx : a.eval x = vx) (hty : o.type = ty) (hr : (Builtin.append_ #[t, t] ty #[v, vx]).run P w = .ok v' w') (h : RunsTo P ops Q rest (a.put o.dst v') w') : RunsTo P ops Q (i :: rest) a w :=
  RunsTo.value ho hg (by
    unfold execOp
    simp only [hop, resolve, invoke, builtin, Sem.run_bind, Sem.run_pure, Result.andThen_ok, List.map_toArray, List.map_cons, List.map_nil, hs, hx, hty, hr]) h

structure TakeAt (w : World) (pc cap sn rc : Nat) (vals : List Value) (k : Nat) (v : Value) (W : World) : Prop where
  ch : W.heap[pc]? = some (chanObj cap (vals.drop k) sn (rc + k))
  own : Own W 22 v (vals.take k)
  chg : Chg (In [pc]) w W
  new : ∀ b, v.ownBlock = some b → w.heap.size ≤ b

/-- One round of Take in memory. -/
theorem TakeAt.next {w W : World} {pc cap sn rc k : Nat} {vals : List Value} {v x : Value} (h : TakeAt w pc cap sn rc vals k v W) (hpc : pc < w.heap.size) (hk : vals[k]? = some x) (hx1 : x.oneCell' = true) (hlen : vals.length ≤ 10000000) :
    ∃ v' W', (Builtin.append_ #[29, 29] 29 #[v, .slice (some ⟨(W.setChan pc cap ((vals.drop k).toArray.extract 1 (vals.drop k).toArray.size) false sn (rc + k + 1) false).heap.size, 0, none⟩) 1 1]).run Tryz.prog ((W.setChan pc cap ((vals.drop k).toArray.extract 1 (vals.drop k).toArray.size) false sn (rc + k + 1) false).alloc (.cells #[x] 22)) = .ok v' W' ∧
      TakeAt w pc cap sn rc vals (k + 1) v' W' := by
  have hkl : k < vals.length := (List.getElem?_eq_some_iff.1 hk).1
  have hdr : vals.drop k = x :: vals.drop (k + 1) := by
    rw [List.drop_eq_getElem_cons hkl]
    rw [List.getElem?_eq_getElem hkl] at hk
    injection hk with hk
    rw [hk]
  have htk : vals.take (k + 1) = vals.take k ++ [x] := by
    rw [List.take_add_one, hk]; rfl
  obtain ⟨W1, hW1⟩ : ∃ W1, W.setChan pc cap ((vals.drop k).toArray.extract 1 (vals.drop k).toArray.size) false sn (rc + k + 1) false = W1 := ⟨_, rfl⟩
  rw [hW1]
  have hwz := h.chg.size
  have hc1 : Chg (In [pc]) W W1 := by rw [← hW1]; exact (Chg.refl _ W).setChan (.inl (by simp)) _ _ _ _ _ _
  have hz1 : W1.heap.size = W.heap.size := by rw [← hW1]; simp [World.setChan]
  have hch1 : W1.heap[pc]? = some (chanObj cap (vals.drop (k + 1)) sn (rc + (k + 1))) := by
    rw [← hW1, heap_setChan _ _ _ _ _ _ _ _ (lt_of_heap h.ch), hdr]
    simp [chanObj, Nat.add_assoc]
    exact List.take_of_length_le (by simp)
  have hoff : Off (In [pc]) v := fun b hb hi => by
    have := h.new b hb
    simp at hi
    omega
  have hown1 := (h.own.kept hc1 hoff).alloc (.cells #[x] 22)
  have hsrc : Src (W1.alloc (.cells #[x] 22)) (.slice (some ⟨W1.heap.size, 0, none⟩) 1 1) [x] := Src.one W1 x _
  obtain ⟨v', W', hr, ho, hc, hb, _⟩ := run_app 29 29 22 (.slice none 0 0) 24 Tryz.underlying29 elem_bytes rfl v (vals.take k) hown1 _ [x] hsrc (by simpa using hx1) (by simp; omega) (by simp [maxLen]; omega)
  have hsz : (W1.alloc (.cells #[x] 22)).heap.size = W.heap.size + 1 := by simp [hz1]
  refine ⟨v', W', hr, ?_, by rw [htk]; exact ho, ?_, ?_⟩
  · refine hc.heap ?_ (fun e => by have := h.new pc e; omega)
    exact ((Chg.refl No W1).alloc _).heap hch1 (fun y => y)
  · refine ((h.chg.trans hc1).alloc _).then hc (fun i hi => .inr (h.new i hi))
  · intro b hb'
    rcases hb with e | e
    · exact h.new b (e ▸ hb')
    · rw [e] at hb'
      injection hb' with hb'
      omega

section
variable {w : World} {px pdf pl pd pc cap sn rc : Nat} {s : Lamp.Sys} {F G : List Nat} {rows : List (Value × Bytes)} {vnow : Value}

/-- What Take gives. -/
structure Taken (w w' : World) (px pl pd : Nat) (s : Lamp.Sys) (G : List Nat) (v : Value) (rws : List (Value × Bytes)) (G' : List Nat) : Prop where
  own : Own w' 22 v (rws.map (·.1))
  told : s.box.out = rws.map (·.2)
  new : ∀ k, v.ownBlock = some k → w.heap.size ≤ k
  each : ∀ r ∈ rws, Bs w' r.1 r.2 ∧ ∀ k, r.1.ownBlock = some k → k ∈ G ∧ k ∉ G'
  box : InAt w' px pl pd { s with box := { s.box with out := [] } } G'
  chg : Chg (In G) w w'
  sub : ∀ k ∈ G', k ∈ G

theorem take_post {W : World} {v : Value} (h : InIn w px pdf pl pd pc cap sn rc s F rows vnow) (hG : G = inBlocks px pdf pc vnow F ++ rowBlocks rows) (ht : TakeAt w pc cap sn rc (rows.map (·.1)) rows.length v W) :
    Taken w W px pl pd s G v rows (inBlocks px pdf pc vnow F) := by
  have hown := ht.own
  have hch := ht.ch
  rw [show rows.length = (rows.map (·.1)).length by simp, List.take_length] at hown
  rw [show rows.length = (rows.map (·.1)).length by simp, List.drop_length] at hch
  have off : ∀ {k}, k ≠ pc → ¬ In [pc] k := fun hk hi => hk (by simpa using hi)
  have heach : ∀ r ∈ rows, Bs W r.1 r.2 := fun r hr => (h.each r hr).1.chg ht.chg (fun k hk => off (fun e => ((h.each r hr).2 k hk).2 (mem_inBlocks.2 (.inr (.inr (.inl e))))))
  refine ⟨hown, h.told, ht.new, fun r hr => ⟨heach r hr, fun k hk => ⟨?_, ((h.each r hr).2 k hk).2⟩⟩, ?_, ?_, ?_⟩
  · rw [hG]; exact List.mem_append.2 (.inr (mem_rowBlocks.2 ⟨r, hr, hk⟩))
  · refine ⟨pdf, pc, cap, sn, rc + (rows.map (·.1)).length, F, [], vnow, ⟨ht.chg.heap h.blk (off h.n2), h.df.kept ht.chg (off h.n3) (fun k hk => off (h.n7 k hk).2.1), hch, h.log.kept ht.chg (fun k hk => off (fun e => h.n6 (e ▸ hk))), rfl, fun r hr => by simp at hr,
      h.n1, h.n2, h.n3, h.n4, h.n5, h.n6, h.n7, by simp, h.cap1, h.cap2, ?_⟩, by simp [rowBlocks]⟩
    have := h.few
    show (([] : List (Value × Bytes)).length : Int) ≤ s.box.seen
    simp
    omega
  · refine ht.chg.mono (fun i _ hi => ?_)
    simp at hi
    subst hi
    rw [hG]
    exact List.mem_append.2 (.inl (mem_inBlocks.2 (.inr (.inr (.inl rfl)))))
  · intro k hk
    rw [hG]
    exact List.mem_append.2 (.inl hk)

theorem takeBox_calls (h : InAt w px pl pd s G) (hs : s.box.seen ≤ 1000000) :
    Calls Tryz.prog 11 #[.pointer (some ⟨px, 0, none⟩)] w fun e w' => ∃ v rws G', e = .returned v ∧ Taken w w' px pl pd s G v rws G' := by
  obtain ⟨pdf, pc, cap, sn, rc, F, rows, vnow, h, hG⟩ := h
  have c2 := cell_blk h.blk 2
  simp only [List.getElem?_toArray, List.getElem?_cons_succ, List.getElem?_cons_zero] at c2
  have hln := chan_len h.ch 3
  have hll : (rows.map (·.1)).length ≤ 10000000 := by have := h.few; simp; omega
  have hl9 : (rows.length : Int) ≤ 10000000 := by have := h.few; omega
  simp only [List.length_map] at hln
  have hlt : pc < w.heap.size := lt_of_heap h.ch
  have hvx : ∀ (k : Nat) (x : Value), (rows.map (·.1))[k]? = some x → x.oneCell' = true ∧ ∃ q n c, x = .slice q n c := by
    intro k x hx
    rw [List.getElem?_map] at hx
    obtain ⟨r, hr, rfl⟩ := Option.map_eq_some_iff.1 hx
    have hb := (h.each r (List.mem_of_getElem? hr)).1
    refine ⟨hb.one, ?_⟩
    obtain ⟨q, c, hv, _⟩ := hb
    exact ⟨q, _, c, hv⟩
  have hat : TakeAt w pc cap sn rc (rows.map (·.1)) 0 (.slice none 0 0) w := ⟨by simpa using h.ch, Own.nil _ _, Chg.refl _ _, fun b hb => by simp [Value.ownBlock] at hb⟩
  have HAT := Lib.hid hat
  have HBL := Lib.hid h.blk
  have HNE := Lib.hid h.n2
  have HFIN : Hid (∀ v W, TakeAt w pc cap sn rc (rows.map (·.1)) rows.length v W → Taken w W px pl pd s G v rows (inBlocks px pdf pc vnow F)) := fun v W ht => take_post h hG ht
  have HVX := Lib.hid hvx
  have HLL := Lib.hid hll
  have HLT := Lib.hid hlt
  clear h hG hat hvx hll hlt
  generalize hvals : rows.map (·.1) = vals at *
  have HVL : Hid (vals.length = rows.length) := by show _ = _; rw [← hvals]; simp
  generalize rows.length = N at *
  clear hvals
  go_enter Tryz.func11, Tryz.ntmps11
  go_wp2_with fail
  go_loopw [3, 11] (fun v i wr => ∃ k : Nat, k ≤ N ∧ i = .int .i64 k ∧ TakeAt w pc cap sn rc vals k v wr) (fun _ i _ => N - (intOf i).toNat)
  case atStart => exact ⟨0, Nat.zero_le _, rfl, HAT.out⟩
  case round =>
    obtain ⟨k, hk, rfl, hat⟩ := hrel
    clear c2 hln HAT
    by_cases hlt2 : k < N
    · obtain ⟨x, hx⟩ : ∃ x, vals[k]? = some x := ⟨_, List.getElem?_eq_getElem (by rw [HVL.out]; exact hlt2)⟩
      obtain ⟨v', W', hr, hat'⟩ := hat.next HLT.out hx (HVX.out k x hx).1 HLL.out
      obtain ⟨qx, nx, cx, hxv⟩ := (HVX.out k x hx).2
      have hbl := hat.chg.heap HBL.out (fun e => HNE.out (by simpa using e))
      have c2 := cell_blk hbl 2
      simp only [List.getElem?_toArray, List.getElem?_cons_succ, List.getElem?_cons_zero] at c2
      have hdr : vals.drop k = x :: vals.drop (k + 1) := by
        rw [List.drop_eq_getElem_cons (by rw [HVL.out]; exact hlt2)]
        rw [List.getElem?_eq_getElem (by rw [HVL.out]; exact hlt2)] at hx
        injection hx with hx
        rw [hx]
      have hold : wr.heap[pc]? = some (.chan cap (vals.drop k).toArray false sn (rc + k) false) := hat.ch
      have HDR := Lib.hid hdr
      have HOLD := Lib.hid hold
      have HREL := Lib.hid hat'
      have HR := Lib.hid hr
      have HKN := Lib.hid hlt2
      clear hat hdr hold hat' hr hbl hx
      go_upto_region 6 with (fail)
      refine wp_of_runs ?_
      change RunsTo _ _ _ [0, 1, 2, 3, 4, 5, 6, 7, 8] _ _
      refine RunsTo.value rfl rfl (v := u3) (w' := wr) ?_ ?_
      · go_simp
      refine RunsTo.value rfl rfl (v := .pointer (some ⟨px, 0, none⟩)) (w' := wr) ?_ ?_
      · go_simp
      refine RunsTo.value rfl rfl (v := .pointer (some ⟨px, 0, none⟩)) (w' := wr) ?_ ?_
      · go_simp
      refine RunsTo.value rfl rfl (v := .pointer (some ⟨px, 2, none⟩)) (w' := wr) ?_ ?_
      · go_simp
      refine RunsTo.value rfl rfl (v := .chan (some pc)) (w' := wr) ?_ ?_
      · go_simp
      refine RunsTo.recv (e0 := 22) (c := pc) (z := .slice none 0 0) rfl rfl rfl rfl Tryz.underlying87 (fun w => by kernel_rfl) HOLD.out (by simp [HVL.out]; exact Nat.sub_pos_of_lt HKN.out) ?_
      rw [show (vals.drop k).toArray.getD 0 undef = x from by rw [HDR.out]; rfl]
      have hr := HR.out
      generalize wr.setChan pc cap ((vals.drop k).toArray.extract 1 (vals.drop k).toArray.size) false sn (rc + k + 1) false = W1 at hr ⊢
      clear HR
      refine RunsTo.value rfl rfl (v := .slice (some ⟨W1.heap.size, 0, none⟩) 1 1) (w' := W1.alloc (.cells #[x] 22)) ?_ ?_
      · subst hxv
        clear hr
        go_simp
      refine RunsTo.app (s := .tmp 13) (x := .tmp 19) (t := 29) (ty := 29) (v := u3) (vx := .slice (some ⟨W1.heap.size, 0, none⟩) 1 1) (v' := v') (w' := W') rfl rfl rfl ?_ ?_ rfl hr ?_
      · go_simp
      · go_simp
      refine RunsTo.value rfl rfl (v := v') (w' := W') ?_ ?_
      · go_simp
      refine RunsTo.nil ?_
      clear hr c2
      have hk9 : (k : Int) ≤ 10000000 := by have := HKN.out; omega
      go_wp2_with fail
      go_roundw
      case rel => exact ⟨k + 1, HKN.out, by go_num, HREL.out⟩
      case measure => have := HKN.out; simp [intOf]; omega
    · obtain rfl : k = N := by omega
      have HF := Lib.hid (HFIN.out _ _ hat)
      clear hat
      go_wp2_with fail
      go_ret
      exact ⟨_, _, _, rfl, HF.out⟩
end
end Go.Proofs.YtgpmnicmgehmbaaGreatDoor


namespace Go.Proofs.YtgpmnicmgehmbaaGreatDoor
open Go.RowKit Lamp Go.Conc
set_option maxRecDepth 100000
set_option maxHeartbeats 400000

def logName : Bytes := [108, 111, 103]
def fresh (room most : Int) : Lamp.Sys := ⟨Disk.new room, ⟨logName, [], 0⟩, ⟨Def.new most, [], 0, 0⟩⟩

theorem diskAt_new {w : World} {pd m : Nat} {n : Int} (h1 : w.heap[pd]? = some (diskObj (Disk.new n) m)) (h2 : w.heap[m]? = some (.map #[] 0)) (hne : pd ≠ m) : DiskAt w pd m (Disk.new n) [] := by
  refine ⟨h1, ⟨#[], 0, h2, rfl⟩, rfl, fun r hr => by simp at hr, ?_⟩
  simp [diskBlocks, hne]

theorem beginBox_calls (w : World) (room most : Int) (h1 : 0 ≤ room) (h2 : room ≤ 1073741824) (h3 : 1 ≤ most) (h4 : most ≤ 65536) :
    Calls Tryz.prog 9 #[.int .i64 room, .int .i64 most] w fun e w' => ∃ pd pl px G, e = .returned (.tuple #[.pointer (some ⟨pd, 0, none⟩), .pointer (some ⟨pl, 0, none⟩), .pointer (some ⟨px, 0, none⟩)]) ∧
      InAt w' px pl pd (fresh room most) G ∧ Chg No w w' ∧ ∀ k ∈ G, w.heap.size ≤ k := by
  have HD := Lib.hid (newDisk_ok (w := w) room h1 h2)
  go_enter Tryz.func9, Tryz.ntmps9
  go_wp2_with fail
  refine HD.out.mono ?_
  rintro e w1 ⟨rfl, hd1, hd2, hb1⟩
  have HO := Lib.hid (open_fresh (diskAt_new hd1 hd2 (by omega)) logName rfl (by decide))
  have HB1 := Lib.hid hb1
  clear hd1 hd2 hb1 HD
  go_wp2_with fail
  refine HO.out.mono ?_
  rintro e w2 ⟨pl, F, rfl, hl, hb2, hF⟩
  have HN := Lib.hid (newBox_ok most h3 h4 hl)
  have HB2 := Lib.hid hb2
  have HF := Lib.hid hF
  clear hl hb2 hF HO
  go_wp2_with fail
  refine HN.out.mono ?_
  rintro e w3 ⟨px, G, rfl, hin, hc, hG⟩
  have HIN := Lib.hid hin
  have HC := Lib.hid hc
  have HG := Lib.hid hG
  clear hin hc hG HN
  go_wp2_with fail
  go_ret3
  have hz1 := HB1.out.size
  have hz2 := HB2.out.size
  refine ⟨_, _, _, G, rfl, HIN.out, ((Chg.of_below HB1.out).trans (Chg.of_below HB2.out)).trans HC.out, fun k hk => ?_⟩
  rcases HG.out k hk with e | e
  · rcases HF.out k e with x | x | x <;> omega
  · omega

def rightText (id : Bytes) : Bytes := [77, 83, 72, 124, 94, 126, 92, 38, 124, 124, 124, 124, 124, 124, 124, 65, 68, 84, 124] ++ id ++ [124, 80, 124, 50, 46, 53, 13]
theorem run_ofText (w : World) (l : Bytes) (hl : l.length ≤ 100000) : ∃ cap W, (convert 9 22 (.string (ofL l))).run Tryz.prog w = .ok (.slice (some ⟨w.heap.size, 0, none⟩) l.length cap) W ∧ Bs W (.slice (some ⟨w.heap.size, 0, none⟩) l.length cap) l ∧ Chg No w W := by
  have h := Lib.run_convert_string_bytes w 9 22 5 (ofL l) Tryz.underlying9 Tryz.underlying22 Tryz.underlying5
  rw [ofL_size] at h
  refine ⟨_, _, h, ⟨_, _, rfl, grownCap_ge _ _ _ _, by omega, fun x => by simp at x, fun hn => ⟨_, 0, rfl, fun i hi => ?_⟩⟩, ⟨rfl, rfl, rfl, by rw [Lib.bytesWorld_size]; omega, fun k hk _ => Lib.bytesWorld_at_old w _ _ k hk⟩⟩
  rw [Nat.zero_add, Lib.bytesWorld_cell _ _ _ _ (by simpa using hi), nums_getD l i hi]
  simp [ofL, List.getD, hi]

theorem rightText_calls (w : World) (id : Bytes) (hl : id.length ≤ 1000) : Calls Tryz.prog 25 #[.string (ofL id)] w fun e w' => ∃ cap, e = .returned (.slice (some ⟨w.heap.size, 0, none⟩) (rightText id).length cap) ∧ Bs w' (.slice (some ⟨w.heap.size, 0, none⟩) (rightText id).length cap) (rightText id) ∧ Chg No w w' := by
  obtain ⟨cap, W, hr, hb, hc⟩ := run_ofText w (rightText id) (by simp [rightText]; omega)
  have HB := Lib.hid hb
  have HC := Lib.hid hc
  clear hb hc
  rw [show ofL (rightText id) = { data := #[77, 83, 72, 124, 94, 126, 92, 38, 124, 124, 124, 124, 124, 124, 124, 65, 68, 84, 124] } ++ ofL id ++ { data := #[124, 80, 124, 50, 46, 53, 13] } by
    apply ByteArray.ext
    simp [ofL, rightText]] at hr
  go_enter Tryz.func25, Tryz.ntmps25
  go_wp2_with fail
  go_ret
  exact ⟨cap, rfl, HB.out, HC.out⟩
end Go.Proofs.YtgpmnicmgehmbaaGreatDoor


namespace Go.Proofs.YtgpmnicmgehmbaaGreatDoor
open Go.RowKit Lamp Go.Conc
def aliveText : Bytes := frameWrap (rightText [55]) ++ frameWrap (rightText []) ++ frameWrap [120, 121, 122]
def aliveEnd : Lamp.Sys × Option Int := (fresh 1000 500).feed aliveText
set_option maxRecDepth 1000000 in
theorem alive_good1 : frameGood (rightText [55]) = true := by kernel_rfl
theorem alive_good2 : frameGood (rightText []) = true := by kernel_rfl
theorem alive_good3 : frameGood [120, 121, 122] = true := by kernel_rfl
theorem alive_len : aliveText.length = 65 := by kernel_rfl
theorem alive_end : aliveEnd.2 = none := by kernel_rfl
theorem alive_out : aliveEnd.1.box.out.length = 2 := by kernel_rfl
theorem alive_seen : aliveEnd.1.box.seen = 2 := by kernel_rfl
theorem alive_kept : aliveEnd.1.box.kept = 1 := by kernel_rfl
theorem alive_log : aliveEnd.1.log.l.length = 1 := by kernel_rfl
theorem fresh_fine (room most : Int) (h1 : 0 ≤ room) (h2 : room ≤ 1073741824) : (fresh room most).Fine 0 :=
  ⟨⟨⟨Int.le_refl _, Int.le_refl _, rfl, by show (0 : Int) ≤ 1073741824; decide, h1, h2, Int.le_refl _, by show (0 : Int) ≤ 9223372036854775807; decide⟩, rfl, by show logName.length ≤ 100; decide, Int.le_refl _, Int.le_refl _, Nat.le_refl _⟩, Int.le_refl _, Int.le_refl _, Int.le_refl _, Int.le_refl _⟩
theorem fresh_ok (most : Int) (h1 : 1 ≤ most) (h2 : most ≤ 65536) : (Def.new most).Ok 0 :=
  ⟨h1, h2, by simp [Def.new]; omega, Int.le_refl _, Int.le_refl _, Int.le_refl _, Int.le_refl _, Int.le_refl _, Int.le_refl _⟩
end Go.Proofs.YtgpmnicmgehmbaaGreatDoor


namespace Go.Proofs.YtgpmnicmgehmbaaGreatDoor
open Go.RowKit Lamp Go.Conc
set_option maxRecDepth 100000
set_option maxHeartbeats 1000000

theorem InAt.logAt {w : World} {px pl pd : Nat} {s : Lamp.Sys} {G : List Nat} (h : InAt w px pl pd s G) : ∃ F, LogAt w pl pd s.disk s.log F := by
  obtain ⟨_, _, _, _, _, F, _, _, h, _⟩ := h
  exact ⟨F, h.log⟩

theorem alive_calls (w : World) (hg : Glob w) (h6 : 6 ≤ w.heap.size) : Calls Tryz.prog 8 #[] w fun e w' => e = .returned (.bool true) ∧ Chg No w w' := by
  have HB := Lib.hid (beginBox_calls w 1000 500 (by decide) (by decide) (by decide) (by decide))
  have HGL := Lib.hid hg
  clear hg
  go_enter Tryz.func8, Tryz.ntmps8
  go_wp2_with fail
  refine HB.out.mono ?_
  rintro e w1 ⟨pd, pl, px, G, rfl, hin1, hc1, hG1⟩
  have HIN1 := Lib.hid hin1
  have HC1 := Lib.hid hc1
  have HG1 := Lib.hid hG1
  have HR1 := Lib.hid (rightText_calls w1 [55] (by decide))
  clear hin1 hc1 hG1 HB
  go_wp2_with fail
  refine HR1.out.mono ?_
  rintro e w2 ⟨cap2, rfl, hb2, hc2⟩
  have HC2 := Lib.hid (HC1.out.trans hc2)
  have HD2 := Lib.hid hc2.size
  have HI2 := Lib.hid (HIN1.out.kept hc2 (fun _ _ x => x))
  have HW2 := Lib.hid (wrap_good w2 _ (rightText [55]) hb2 (by decide) (HGL.out.no HC2.out) alive_good1)
  clear hb2 hc2 HR1
  go_wp2_with fail
  refine HW2.out.mono ?_
  rintro e w3 ⟨gb3, cap3, rfl, ho3, hg3, hc3⟩
  have HC3 := Lib.hid (HC2.out.trans hc3)
  have HI3 := Lib.hid (HI2.out.kept hc3 (fun _ _ x => x))
  have HO3 := Lib.hid ho3
  have HL3 := Lib.hid (ho3.lt (k := gb3) rfl)
  have HZ3 := Lib.hid (Nat.le_trans HD2.out hg3)
  have HR3 := Lib.hid (rightText_calls w3 [] (by decide))
  clear ho3 hg3 hc3 HW2
  go_wp2_with fail
  refine HR3.out.mono ?_
  rintro e w4 ⟨cap4, rfl, hb4, hc4⟩
  have HC4 := Lib.hid (HC3.out.trans hc4)
  have HI4 := Lib.hid (HI3.out.kept hc4 (fun _ _ x => x))
  have HO4 := Lib.hid (HO3.out.kept hc4 (fun _ _ x => x))
  have HW4 := Lib.hid (wrap_good w4 _ (rightText []) hb4 (by decide) (HGL.out.no HC4.out) alive_good2)
  clear hb4 hc4 HR3
  go_wp2_with fail
  refine HW4.out.mono ?_
  rintro e w5 ⟨gb5, cap5, rfl, ho5, hg5, hc5⟩
  have HC5 := Lib.hid (HC4.out.trans hc5)
  have HI5 := Lib.hid (HI4.out.kept hc5 (fun _ _ x => x))
  have HO5 := Lib.hid (HO4.out.kept hc5 (fun _ _ x => x))
  have HP5 := Lib.hid ho5
  have HL5 : Hid (gb3 < w5.heap.size) := HO5.out.lt (k := gb3) rfl
  have HZ5 := Lib.hid (Nat.le_trans HC4.out.size hg5)
  clear ho5 hg5 hc5 HW4
  have hcv := conv_at w5 #[.int .u8 120, .int .u8 121, .int .u8 122] 3 3 w5.heap.size rfl
  simp only [List.size_toArray, List.length_cons, List.length_nil, Nat.reduceAdd] at hcv
  obtain ⟨W6, hW6⟩ : ∃ W6, w5.alloc (.cells #[.int .u8 120, .int .u8 121, .int .u8 122] 5 (3, 4)) = W6 := ⟨_, rfl⟩
  have hc6 : Chg No w5 W6 := by rw [← hW6]; exact (Chg.refl No w5).alloc _
  have hb6 : Bs W6 (.slice (some ⟨w5.heap.size, 0, none⟩) 3 3) [120, 121, 122] := by
    refine ⟨_, 3, rfl, Nat.le_refl _, by decide, fun x => by simp at x, fun _ => ⟨_, 0, rfl, fun i hi => ?_⟩⟩
    rw [← hW6, cell_blk (heap_alloc_new w5 _)]
    have : i = 0 ∨ i = 1 ∨ i = 2 := by simp at hi; omega
    rcases this with rfl | rfl | rfl <;> rfl
  have HC6 := Lib.hid (HC5.out.trans hc6)
  have HL6 := Lib.hid hc6.size
  have HI6 := Lib.hid (HI5.out.kept hc6 (fun _ _ x => x))
  have HO6 := Lib.hid (HO5.out.kept hc6 (fun _ _ x => x))
  have HP6 := Lib.hid (HP5.out.kept hc6 (fun _ _ x => x))
  have HW6 := Lib.hid (wrap_good W6 _ [120, 121, 122] hb6 (by decide) (HGL.out.no HC6.out) alive_good3)
  rw [hW6] at hcv
  clear hW6 hc6 hb6
  go_wp2_with fail
  refine HW6.out.mono ?_
  rintro e w7 ⟨gb7, cap7, rfl, ho7, hg7, hc7⟩
  have HC7 := Lib.hid (HC6.out.trans hc7)
  have HI7 := Lib.hid (HI6.out.kept hc7 (fun _ _ x => x))
  have HO7 := Lib.hid (HO6.out.kept hc7 (fun _ _ x => x))
  have HP7 := Lib.hid (HP6.out.kept hc7 (fun _ _ x => x))
  have HQ7 := Lib.hid ho7
  have HX7 : Hid (gb3 < gb7) := Nat.lt_of_lt_of_le (Nat.lt_of_lt_of_le HL5.out (by have := HC6.out; exact HL6.out)) hg7
  have HY7 : Hid (w1.heap.size ≤ w7.heap.size) := Nat.le_trans HZ3.out (Nat.le_of_lt (Nat.lt_of_lt_of_le HL5.out (Nat.le_trans HL6.out hc7.size)))
  have HT : Hid (aliveText = frameWrap (rightText [55]) ++ frameWrap (rightText []) ++ frameWrap [120, 121, 122]) := rfl
  have hlen := alive_len
  rw [HT.out] at hlen
  clear ho7 hg7 hc7 HW6 hcv HO3 HO4 HO5 HO6 HP5 HP6 HC2 HC3 HC4 HC5 HC6 HI2 HI3 HI4 HI5 HI6
  generalize frameWrap (rightText [55]) = A at *
  generalize frameWrap (rightText []) = B at *
  generalize frameWrap [120, 121, 122] = C at *
  simp only [List.length_append] at hlen
  have HLEN := Lib.hid hlen
  have HSB : Hid (Src w7 (.slice (some ⟨gb5, 0, none⟩) B.length cap5) (B.map u8)) := (own_bytes HP7.out (by omega)).src
  have HSC : Hid (∀ w8, Chg (fun k => (Value.slice (some ⟨gb3, 0, none⟩) A.length cap3).ownBlock = some k) w7 w8 → Src w8 (.slice (some ⟨gb7, 0, none⟩) C.length cap7) (C.map u8)) := fun w8 h => ((own_bytes HQ7.out (by omega)).chg h (fun k hk hk2 => by
    simp [Value.ownBlock] at hk hk2
    have := HX7.out
    omega)).src
  clear hlen
  go_wp2_with (at_builtin; first
    | (refine wpList_appB0 rfl _ _ rfl (.slice (some ⟨gb3, 0, none⟩) A.length cap3) A rfl ?p1 _ B rfl ?p2 ?p3 ?_; (case p1 => exact HO7.out); (case p2 => exact HSB.out); (case p3 => (have := HLEN.out; omega)); intro q8 cap8 w8 hown8 hchg8 hblk8)
    | (refine wpList_appB0 rfl _ _ rfl (.slice q8 (A.length + B.length) cap8) (A ++ B) rfl ?r1 _ C rfl ?r2 ?r3 ?_; (case r1 => exact hown8); (case r2 => exact HSC.out _ hchg8); (case r3 => (have := HLEN.out; simp; omega)); intro q9 cap9 w9 hown9 hchg9 hblk9))
  have hq8 : ∀ n c k, (Value.slice q8 n c).ownBlock = some k → w1.heap.size ≤ k := by
    intro n c k hk
    have e : (Value.slice q8 n c).ownBlock = (Value.slice q8 (A.length + B.length) cap8).ownBlock := by cases q8 <;> rfl
    rw [e] at hk
    rcases hblk8 with x | x
    · rw [x] at hk; simp [Value.ownBlock] at hk; have := HZ3.out; omega
    · rw [x] at hk; simp at hk; have := HY7.out; omega
  have hq9 : ∀ n c k, (Value.slice q9 n c).ownBlock = some k → w1.heap.size ≤ k := by
    intro n c k hk
    have e : (Value.slice q9 n c).ownBlock = (Value.slice q9 ((A ++ B).length + C.length) cap9).ownBlock := by cases q9 <;> rfl
    rw [e] at hk
    rcases hblk9 with x | x
    · rw [x] at hk; exact hq8 _ _ k hk
    · rw [x] at hk; simp at hk; have := HY7.out; have := hchg8.size; omega
  have hl1 := HIN1.out.lt
  have hi8 := HI7.out.kept hchg8 (fun k hk hk2 => by simp [Value.ownBlock] at hk2; have := hl1 k hk; have := HZ3.out; omega)
  have hi9 := hi8.kept hchg9 (fun k hk hk2 => by have := hq8 _ _ k hk2; have := hl1 k hk; omega)
  have hz01 := HC1.out.size
  have hc8 := HC7.out.then hchg8 (fun k hk => .inr (by simp [Value.ownBlock] at hk; have := HZ3.out; omega))
  have hc9 := hc8.then hchg9 (fun k hk => .inr (by have := hq8 _ _ k hk; omega))
  have hb9 := own_bytes hown9 (by have := HLEN.out; simp; omega)
  rw [← HT.out, List.length_append] at hb9
  have hf := (feedBox_calls (n := 0) (N := 0) _ aliveText hi9 (HGL.out.no hc9) (fun k hk => Nat.le_trans h6 (HG1.out k hk)) hb9 (fun k hk hk2 => by have := hq9 _ _ k hk; have := hl1 k hk2; omega)
    (fresh_fine 1000 500 (by decide) (by decide)) (by rw [alive_len]; decide) (fresh_ok 500 (by decide) (by decide)) (by rw [alive_len]; decide))
  obtain ⟨S, hS⟩ : ∃ S, aliveEnd.1 = S := ⟨_, rfl⟩
  have hfe : (fresh 1000 500).feed aliveText = (S, none) := by
    show aliveEnd = _
    rw [← hS, ← alive_end]
  rw [hfe] at hf
  have HF : Hid (Calls Tryz.prog 10 #[.pointer (some ⟨px, 0, none⟩), .slice q9 (A.length + B.length + C.length) cap9] w9 fun e w' => e = .returned (.int .i64 0) ∧ InTo w9 w' px pl pd G S) := hf
  have HOUT := Lib.hid (show S.box.out.length = 2 by rw [← hS]; exact alive_out)
  have HSEEN := Lib.hid (show S.box.seen = 2 by rw [← hS]; exact alive_seen)
  have HKEPT := Lib.hid (show S.box.kept = 1 by rw [← hS]; exact alive_kept)
  have HLOG := Lib.hid (show S.log.l.length = 1 by rw [← hS]; exact alive_log)
  clear hf hfe hS
  have HC9 := Lib.hid hc9
  clear hown8 hchg8 hblk8 hown9 hchg9 hblk9 hq8 hq9 hl1 hi8 hi9 hz01 hc8 hc9 hb9
  refine HF.out.mono ?_
  rintro e w10 ⟨rfl, G2, hin10, hc10, hG2⟩
  have HTK := Lib.hid (takeBox_calls hin10 (by rw [HSEEN.out]; decide))
  have HC10 : Hid (Chg No w w10) := HC9.out.then hc10 (fun k hk => .inr (HG1.out k hk))
  have HG2 : Hid (∀ k ∈ G2, w.heap.size ≤ k) := fun k hk => by
    rcases hG2 k hk with e | e
    · exact HG1.out k e
    · exact Nat.le_trans HC9.out.size e
  clear hin10 hc10 hG2 HF
  go_wp2_with fail
  refine HTK.out.mono ?_
  rintro e w11 ⟨v, rws, G3, rfl, ht⟩
  obtain ⟨q, cap, hv⟩ := ht.own.sliceOf
  have hl := congrArg List.length ht.told
  rw [HOUT.out, List.length_map] at hl
  rw [List.length_map, ← hl] at hv
  subst hv
  have HC11 : Hid (Chg No w w11) := HC10.out.then ht.chg (fun k hk => .inr (HG2.out k hk))
  have hsn := seen_calls ht.box
  have hkp := kept_calls ht.box
  obtain ⟨F, hlo⟩ := ht.box.logAt
  have hll := logLen_calls hlo
  have HSN : Hid (Calls Tryz.prog 13 #[.pointer (some ⟨px, 0, none⟩)] w11 fun e w' => e = .returned (.int .i64 2) ∧ w11 = w') := by
    rw [← HSEEN.out]; exact hsn
  have HKP : Hid (Calls Tryz.prog 20 #[.pointer (some ⟨px, 0, none⟩)] w11 fun e w' => e = .returned (.int .i64 1) ∧ w11 = w') := by
    rw [← HKEPT.out]; exact hkp
  have HLL : Hid (Calls Tryz.prog 16 #[.pointer (some ⟨pl, 0, none⟩)] w11 fun e w' => e = .returned (.int .i64 1) ∧ w11 = w') := by
    have h1 : ((S.log.l.length : Nat) : Int) = 1 := by rw [HLOG.out]; rfl
    rw [← h1]; exact hll
  clear hsn hkp hll hlo ht HTK hl
  go_wp2_with fail
  refine HSN.out.mono ?_
  rintro e w12 ⟨rfl, rfl⟩
  go_wp2_with fail
  refine HKP.out.mono ?_
  rintro e w12 ⟨rfl, rfl⟩
  go_wp2_with fail
  refine HLL.out.mono ?_
  rintro e w12 ⟨rfl, rfl⟩
  go_wp2_with fail
  go_ret
  exact ⟨rfl, HC11.out⟩
end Go.Proofs.YtgpmnicmgehmbaaGreatDoor
