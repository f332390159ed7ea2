/- Segments joined and made.
   segment.Make.
   Package msh: the table of texts, others, first, Check.
   A region that draws its order, whose operations only read, and whose callees lay new blocks alone: walked once, in the order of the text.
   msh.Check, where the fields are there.
   The signs: Read. -/
import Derived.Test.YtgpmnicmgehmbaaGreatDoorB06
import Derived.Lib.AppendStr
import Derived.Test.YtgpmnicmgehmbaaGreatDoorB02
import Derived.Deep.Quiet
import Derived.Deep.QuietTactic
import Derived.Deep.RegionHeld3
import Derived.Lib.SlBytesConst

namespace Go.Proofs.YtgpmnicmgehmbaaGreatDoor
open Go.RowKit Lamp
set_option maxRecDepth 100000
set_option maxHeartbeats 400000

/-- A slice that reads as these texts. -/
def Ss (w : World) (v : Value) (l : List Bytes) : Prop := ∃ q cap, v = .slice q l.length cap ∧ l.length ≤ cap ∧ (l ≠ [] → ∃ g o, q = some ⟨g, o, none⟩ ∧ ∀ k (hk : k < l.length), w.cell? ⟨g, o + k, none⟩ = some (.string (ofL l[k])))
theorem Ss.chg {S : Nat → Prop} {w w' : World} {v : Value} {l : List Bytes} (h : Ss w v l) (hc : Chg S w w') (ho : Off S v) : Ss w' v l := by
  obtain ⟨q, cap, rfl, h1, h2⟩ := h
  refine ⟨q, cap, rfl, h1, fun hl => ?_⟩
  obtain ⟨g, o, rfl, h3⟩ := h2 hl
  exact ⟨g, o, rfl, fun k hk => hc.cell (h3 k hk) (ho g rfl)⟩
theorem Ss.no {w w' : World} {v : Value} {l : List Bytes} (h : Ss w v l) (hc : Chg No w w') : Ss w' v l := h.chg hc (fun _ _ x => x)
theorem Ss.of_own {w : World} {v : Value} {l : List Bytes} (h : Own w 9 v (strs l)) : Ss w v l := by
  obtain ⟨_, h⟩ := h
  rcases h with ⟨rfl, h0⟩ | ⟨g, cap, cur, rfl, hb, hg, h1, h2, h3, h4⟩
  · obtain rfl : l = [] := List.eq_nil_of_length_eq_zero (by simpa using h0)
    exact ⟨none, 0, rfl, Nat.le_refl _, fun h => absurd rfl h⟩
  · simp only [List.length_map] at h1 ⊢
    refine ⟨some ⟨g, 0, none⟩, cap, rfl, h1, fun _ => ⟨g, 0, rfl, fun i hi => ?_⟩⟩
    rw [cell_blk hg, Nat.zero_add]
    have h5 : (cur.toList.take ((strs l).length * 1))[i]? = some (.string (ofL l[i])) := by rw [h4]; simp [hi]
    rw [List.getElem?_take, if_pos (by simp; omega)] at h5
    simpa using h5
theorem Ss.src {w : World} {v : Value} {l : List Bytes} (h : Ss w v l) : ∃ q cap, v = .slice q l.length cap ∧ (∀ ad, q = some ad → Src w v (strs l)) ∧ (q = none → l = []) := by
  obtain ⟨q, cap, rfl, h1, h2⟩ := h
  refine ⟨q, cap, rfl, ?_, ?_⟩
  · rintro ad rfl
    refine .inr ⟨ad, cap, by simp, fun j u hu => ?_⟩
    have hj : j < l.length := by
      rcases Nat.lt_or_ge j l.length with h | h
      · exact h
      · simp [List.getElem?_eq_none h] at hu
    obtain ⟨g, o, hq, h3⟩ := h2 (by intro h; simp [h] at hj)
    cases hq
    rw [addr_add, h3 j hj]
    simp [hj] at hu
    rw [hu]
  · rintro rfl
    by_cases hl : l = []
    · exact hl
    · obtain ⟨g, o, hq, _⟩ := h2 hl
      cases hq
theorem Ss.lit (w : World) (l : List Bytes) (vs : Array Value) (hvs : vs = (strs l).toArray) : Ss (w.alloc (.cells vs 9)) (.slice (some ⟨w.heap.size, 0, none⟩) l.length l.length) l := by
  subst hvs
  refine ⟨_, _, rfl, Nat.le_refl _, fun _ => ⟨_, 0, rfl, fun k hk => ?_⟩⟩
  rw [cell_blk (heap_alloc_new w _), Nat.zero_add]
  simp [hk]

theorem join_sep (sep : UInt8) : ∀ l : List Bytes, Lib.join l [sep] = sepJoin sep l
  | [] => rfl
  | [x] => by simp [Lib.join, List.intercalate, sepJoin]
  | x :: y :: l => by
    have ih := join_sep sep (y :: l)
    simp only [Lib.join, List.intercalate, List.intersperse_cons_cons, List.flatten_cons, sepJoin] at ih ⊢
    rw [ih]
    rfl
theorem join_none : ∀ l : List Bytes, Lib.join l [] = l.flatten
  | [] => rfl
  | [x] => by simp [Lib.join, List.intercalate]
  | x :: y :: l => by
    have ih := join_none (y :: l)
    simp only [Lib.join, List.intercalate, List.intersperse_cons_cons, List.flatten_cons] at ih ⊢
    rw [ih]
    rfl

theorem sjoin_calls {w : World} {v : Value} (l : List Bytes) (sep : Bytes) (h : Ss w v l) (hl : l.length ≤ 140737488355328) (hn : (Lib.join l sep).length ≤ 140737488355328) :
    Calls Tryz.prog 162 #[v, .string (ofL sep)] w fun e w' => e = .returned (.string (ofL (Lib.join l sep))) ∧ Chg No w w' := by
  obtain ⟨q, cap, rfl, h1, h2⟩ := h
  by_cases h0 : l = []
  · subst h0
    refine (Tryz.strings_Join_none q cap (ofL sep) w).mono ?_
    rintro e w' ⟨rfl, rfl⟩
    exact ⟨rfl, Chg.refl _ _⟩
  · obtain ⟨g, o, rfl, h3⟩ := h2 h0
    have hpos := List.length_pos_iff.2 h0
    have hm : (l.map ofL).map (·.data.toList) = l := by rw [List.map_map]; exact (List.map_congr_left (fun _ _ => rfl)).trans (List.map_id l)
    have := Tryz.strings_Join g o cap (l.map ofL) (ofL sep) w (by
      intro j x hx
      obtain ⟨hj, rfl⟩ := List.getElem?_eq_some_iff.1 hx
      simp only [List.length_map] at hj
      rw [h3 j hj]; simp) (World.block_lt_of_cell? w _ (h3 0 hpos)) (by simpa using hl) (by simpa using h1) (by rw [hm]; exact hn)
    rw [hm] at this
    simp only [List.length_map, ofL_data] at this
    refine this.mono ?_
    rintro e w' ⟨rfl, hb⟩
    exact ⟨rfl, Chg.of_below hb⟩

theorem djoin_calls {w : World} {v : Value} (l : List Bytes) (sep : UInt8) (h : Ss w v l) (hl : l.length ≤ 140737488355328) (hn : (sepJoin sep l).length ≤ 140737488355328) :
    Calls Tryz.prog 163 #[.int .u8 sep.toNat, v] w fun e w' => e = .returned (.string (ofL (sepJoin sep l))) ∧ Chg No w w' := by
  rw [← join_sep] at hn ⊢
  have HJ := Lib.hid (fun w1 h => sjoin_calls (w := w1) (v := v) l [sep] h hl hn)
  have hcv := run_sign w sep
  have HS := Lib.hid h
  obtain ⟨q, cap, rfl, h1, h2⟩ := h
  clear h1 h2 hl hn
  generalize Lib.join l [sep] = r at HJ
  generalize l.length = k at HJ HS
  go_enter Tryz.func163, Tryz.ntmps163
  go_wp2_with fail
  refine (HJ.out _ (HS.out.no ((Chg.refl No w).alloc _))).mono ?_
  rintro e w1 ⟨rfl, hc⟩
  have HC := Lib.hid (((Chg.refl No w).alloc _).trans hc)
  clear hc
  go_wp2_with fail
  go_ret
  exact ⟨rfl, HC.out⟩

theorem info_u8 : ∃ i, (Tryz.prog.info? 5) = some i ∧ i.zero = some (.int .u8 0) ∧ i.size = 1 ∧ i.bytes = 1 := by
  obtain ⟨i, hi, hz, hs, hb⟩ := info_parts elem_u8
  exact ⟨i, hi, hz, hs, hb⟩

theorem strCells_ofL (l : Bytes) : Lib.strCells (ofL l) = l.map u8 := rfl

/-- What Join has made so far. -/
def JoinAt (B : Nat) (w : World) (l : List Bytes) (k : Nat) (v : Value) (wr : World) : Prop := wr.ownsRow B 5 1 v (join (l.take k)).length ((join (l.take k)).map u8) ∧ Chg No w wr
theorem join_take (l : List Bytes) (k : Nat) (hk : k < l.length) : join (l.take (k + 1)) = join (l.take k) ++ l[k] ++ [13] := by
  unfold join
  rw [List.take_succ_eq_append_getElem hk, List.flatMap_append]
  simp
theorem join_take_le (l : List Bytes) (k : Nat) : (join (l.take k)).length ≤ (join l).length := by
  conv => rhs; rw [← List.take_append_drop k l]
  simp only [join, List.flatMap_append, List.length_append]
  omega

theorem Chg.no_own {w w1 w2 : World} {e : TypeId} {v : Value} {n : Nat} {xs : List Value} (h : Chg No w w1) (ho : w1.ownsRow w.heap.size e 1 v n xs) (hg : w1.grownBy w2 v.ownBlock) : Chg No w w2 := by
  refine ⟨hg.os.trans h.os, hg.tape.trans h.tape, hg.output.trans h.output, Nat.le_trans h.size hg.size, fun k hk _ => ?_⟩
  refine (hg.block k (Nat.lt_of_lt_of_le hk h.size) (fun e => ?_)).trans (h.block k hk (fun x => x))
  have := (World.ownsRow.lt ho k e.symm).1
  omega

theorem segJoin_calls {w : World} {v : Value} (l : List Bytes) (h : Ss w v l) (hl : l.length ≤ 1000000) (hn : (join l).length ≤ 100000000) :
    Calls Tryz.prog 119 #[v] w fun e w' => ∃ u, e = .returned u ∧ w'.ownsRow w.heap.size 5 1 u (join l).length ((join l).map u8) ∧ Chg No w w' := by
  obtain ⟨i, hi, hz, hsz, hby⟩ := info_u8
  have HI := Lib.hid hi
  have HZ := Lib.hid hz
  have HSZ := Lib.hid hsz
  have HBY := Lib.hid hby
  have HS := Lib.hid h
  obtain ⟨q, cap, rfl, h1, h2⟩ := h
  have H2 := Lib.hid h2
  clear h1 h2 hi hz hsz hby
  go_enter Tryz.func119, Tryz.ntmps119
  go_wp2_with fail
  go_loopw [3, 8] (fun u i wr => ∃ k : Nat, k ≤ l.length ∧ i = .int .i64 k ∧ JoinAt w.heap.size w l k u wr) (fun _ i _ => l.length - (intOf i).toNat)
  case atStart => exact ⟨0, Nat.zero_le _, rfl, by simpa [JoinAt, join] using ⟨World.ownsRow_nil _ _ _ _, Chg.refl No w⟩⟩
  case round =>
    obtain ⟨k, hk, rfl, ⟨hown, hchg⟩⟩ := hrel
    by_cases hlt : k < l.length
    · obtain ⟨g, o, rfl, h3⟩ := H2.out (by intro h; simp [h] at hlt)
      have hcell := hchg.cell (h3 k hlt) (fun x => x)
      have HT := Lib.hid (join_take l k hlt)
      have hle := join_take_le l (k + 1)
      rw [HT.out] at hle
      simp only [List.length_append, List.length_cons, List.length_nil] at hle
      have HLE := Lib.hid hle
      have HOWN := Lib.hid hown
      have HCHG := Lib.hid hchg
      have hBw : w.heap.size ≤ wr.heap.size := hchg.size
      clear hle hown hchg h3
      generalize l[k] = x at hcell HT HLE
      go_wp2_with (first
        | (at_builtin; refine Lib.wpList_append_own_string _ rfl _ _ 22 9 rfl w.heap.size 5 i Tryz.underlying22 Tryz.underlying9 HI.out HZ.out HSZ.out HBY.out _ _ _ rfl HOWN.out (ofL x) rfl (by have := HLE.out; simp [maxLen]; omega) (by have := HLE.out; simp; omega) hBw ?_; intro v1 w1 hown1 hgr1 _; have HOWN1 := Lib.hid hown1; have HGR1 := Lib.hid hgr1; clear hown1 hgr1)
        | (at_builtin; refine wpList_append_own _ rfl _ _ 22 rfl w.heap.size 5 i (.int .u8 0) 1 1 Tryz.underlying22 HI.out HZ.out HSZ.out HBY.out rfl (by decide) v1 _ _ rfl (HOWN1.out.alloc _) ⟨w1.heap.size, 0, none⟩ 1 1 [u8 13] rfl rfl (by intro j u hu; rw [addr_add, cell_blk (heap_alloc_new w1 _)]; simpa [u8] using hu) (u8_one [13]) (by have := HLE.out; simp [maxLen]; omega) (by have := HLE.out; simp; omega) (by have := HGR1.out.size; simp; omega) ?_; intro v2 w2 hown2 hgr2 _; have HOWN2 := Lib.hid hown2; have HGR2 := Lib.hid hgr2; clear hown2 hgr2))
      have hc1 := HCHG.out.no_own HOWN.out HGR1.out
      have hc2 := (hc1.alloc (.cells #[.int .u8 13] 5)).no_own (HOWN1.out.alloc _) HGR2.out
      refine ⟨⟨k + 1, by omega, by go_num, ?_, hc2⟩, by simp [intOf]; omega⟩
      have := HOWN2.out
      rw [HT.out]
      simpa [strCells_ofL, Nat.add_assoc] using this
    · obtain rfl : k = l.length := by omega
      have HOWN := Lib.hid hown
      have HCHG := Lib.hid hchg
      clear hown hchg hlt
      go_wp2_with fail
      go_ret
      refine ⟨_, rfl, ?_, HCHG.out⟩
      have := HOWN.out
      rwa [List.take_length] at this
end Go.Proofs.YtgpmnicmgehmbaaGreatDoor


namespace Go.Proofs.YtgpmnicmgehmbaaGreatDoor
open Go.RowKit Lamp
set_option maxRecDepth 100000
set_option maxHeartbeats 400000

abbrev dvObj (d : Delims) : Obj := .cells #[.int .u8 (d.field.toNat : Int), .int .u8 (d.part.toNat : Int), .int .u8 (d.again.toNat : Int), .int .u8 (d.esc.toNat : Int), .int .u8 (d.sub.toNat : Int)] 110

theorem Ss.src0 {w : World} {v : Value} {l : List Bytes} (h : Ss w v l) : ∃ q cap, v = .slice q l.length cap ∧ (Src w v (strs l) ∨ q = none ∧ l = []) := by
  obtain ⟨q, cap, rfl, h1, h2⟩ := h.src
  cases q with
  | none => exact ⟨none, cap, rfl, .inr ⟨rfl, h2 rfl⟩⟩
  | some a => exact ⟨some a, cap, rfl, .inl (h1 a rfl)⟩

theorem Src.no {w w' : World} {v : Value} {l : List Value} (h : Src w v l) (hc : Chg No w w') : Src w' v l := by
  rcases h with h | ⟨ad, c, rfl, h⟩
  · exact .inl h
  · exact .inr ⟨ad, c, rfl, fun j u hu => hc.cell (h j u hu) (fun x => x)⟩
theorem lit_own (w : World) (d : Delims) (name : Bytes) : Own (((w.alloc (dvObj d)).alloc (.cells #[.string (ofL name)] 9)).drew) 9 (.slice (some ⟨w.heap.size + 1, 0, none⟩) 1 1) [.string (ofL name)] := by
  have h := Own.lit (w.alloc (dvObj d)) 9 #[.string (ofL name)] (by simp [maxLen])
  rw [World.size_alloc] at h
  exact h
theorem lit_k0 {w w1 : World} {d : Delims} {name : Bytes} (h : Chg (fun k => (Value.slice (some ⟨w.heap.size + 1, 0, none⟩) 1 1).ownBlock = some k) (((w.alloc (dvObj d)).alloc (.cells #[.string (ofL name)] 9)).drew) w1) :
    w1.cell? ⟨w.heap.size, 0, none⟩ = some (.int .u8 (d.field.toNat : Int)) ∧ Chg No w w1 := by
  have h0 : Chg No (w.alloc (dvObj d)) ((w.alloc (dvObj d)).alloc (.cells #[.string (ofL name)] 9)).drew := ((Chg.refl No _).alloc _).drew
  refine ⟨h.cell (dv_box h0).1 (by simp [Value.ownBlock]), (((Chg.refl No w).alloc _).trans h0).then h (by intro i hi; right; have : w.heap.size + 1 = i := (by simpa [Value.ownBlock] using hi); omega)⟩

theorem make_other {w : World} {v : Value} (d : Delims) (name : Bytes) (l : List Bytes) (h : Ss w v l) (hs : Src w v (strs l)) (hl : l.length ≤ 1000000) (hn : (sepJoin d.field (name :: l)).length ≤ 100000000) (hm : name ≠ msh) :
    Calls Tryz.prog 120 #[dv d, .string (ofL name), v] w fun e w' => e = .returned (.string (ofL (make d name l))) ∧ Chg No w w' := by
  have hmk : make d name l = sepJoin d.field (name :: l) := by unfold make; rw [if_neg hm]
  rw [hmk]
  have hm' : (name == [77, 83, 72]) = false := by simpa [msh] using hm
  have HJ := Lib.hid (fun w1 v1 h => djoin_calls (w := w1) (v := v1) (name :: l) d.field h (by simp; omega) (by omega))
  have HS := Lib.hid h
  have HSR := Lib.hid hs
  have HN := Lib.hid hn
  have HL := Lib.hid hl
  clear hmk hm hn hl h hs
  generalize sepJoin d.field (name :: l) = r at HJ HN
  unfold dv
  go_enter Tryz.func120, Tryz.ntmps120
  go_wp2_with fail
  go_region_law ((first
    | (refine step_wp rfl ?_; refine wp_app _ _ 115 rfl 9 (.string ⟨#[]⟩) 16 Tryz.underlying115 elem_string rfl (.slice (some ⟨w.heap.size + 1, 0, none⟩) 1 1) [.string (ofL name)] rfl ?o1 v (strs l) rfl ?o2 (strs_one l) ?o3 ?o4 ?_; (case o1 => exact lit_own w d name); (case o2 => exact HSR.out.no ((((Chg.refl No w).alloc _).alloc _).drew)); (case o3 => (have := HL.out; simp; omega)); (case o4 => (have := HL.out; simp [maxLen]; omega)); intro v1 w1 hown1 hchg1 hblk1 hf1; have HOWN1 := Lib.hid hown1; obtain ⟨k1, hc1⟩ := lit_k0 hchg1; have HC1 := Lib.hid hc1; clear hown1 hchg1 hblk1 hf1 hc1)
    | (go_simp; go_at_call 163; refine (HJ.out _ _ (Ss.of_own HOWN1.out)).mono ?_; rintro e w2 ⟨rfl, hc2⟩; have HC2 := Lib.hid (HC1.out.trans hc2); clear hc2)))
  all_goals
    go_wp2_with fail
    go_ret
    exact ⟨rfl, HC2.out⟩

theorem lit_own2 (W : World) (name : Bytes) : Own ((W.alloc (.cells #[.string (ofL name)] 9)).drew) 9 (.slice (some ⟨W.heap.size, 0, none⟩) 1 1) [.string (ofL name)] :=
  Own.lit W 9 #[.string (ofL name)] (by simp [maxLen])
theorem lit_k02 {w W w1 : World} {b : Nat} {u : Value} {name : Bytes} (h : Chg (fun k => (Value.slice (some ⟨W.heap.size, 0, none⟩) 1 1).ownBlock = some k) ((W.alloc (.cells #[.string (ofL name)] 9)).drew) w1)
    (hw : Chg No w W) (hk : W.cell? ⟨b, 0, none⟩ = some u) : w1.cell? ⟨b, 0, none⟩ = some u ∧ Chg No w w1 := by
  have hb : b < W.heap.size := World.block_lt_of_cell? W _ hk
  have h0 : Chg No W (W.alloc (.cells #[.string (ofL name)] 9)).drew := ((Chg.refl No _).alloc _).drew
  refine ⟨h.cell (h0.cell hk (fun x => x)) (by simp [Value.ownBlock]; omega), (hw.trans h0).then h (by intro i hi; right; have : W.heap.size = i := (by simpa [Value.ownBlock] using hi); have := hw.size; omega)⟩

theorem Ss.take {w : World} {q : Option Addr} {cap : Nat} {l : List Bytes} (h : Ss w (.slice q l.length cap) l) (n : Nat) (hn : n ≤ l.length) : Ss w (.slice q n cap) (l.take n) := by
  obtain ⟨q', cap', hv, h1, h2⟩ := h
  simp only [Value.slice.injEq] at hv
  obtain ⟨rfl, _, rfl⟩ := hv
  have hl : (l.take n).length = n := by simp; omega
  refine ⟨q, cap, by rw [hl], by rw [hl]; omega, fun h0 => ?_⟩
  obtain ⟨g, o, hq, h3⟩ := h2 (by rintro rfl; simp at h0)
  refine ⟨g, o, hq, fun k hk => ?_⟩
  rw [hl] at hk
  rw [h3 k (by omega)]
  simp

theorem flat2 (l : List Bytes) : Lib.join (l.take 2) [] = (l.take 2).flatten := join_none _

theorem make_msh {w : World} {g o cap : Nat} (d : Delims) (l : List Bytes) (h : Ss w (.slice (some ⟨g, o, none⟩) l.length cap) l) (h2 : 2 ≤ l.length) (hcap : l.length ≤ cap) (hl : l.length ≤ 1000000)
    (hn : (sepJoin d.field ((msh ++ (l.take 2).flatten) :: l.drop 2)).length ≤ 100000000) (hn2 : (l.take 2).flatten.length ≤ 100000000) :
    Calls Tryz.prog 120 #[dv d, .string (ofL msh), .slice (some ⟨g, o, none⟩) l.length cap] w fun e w' => e = .returned (.string (ofL (make d msh l))) ∧ Chg No w w' := by
  have hmk : make d msh l = sepJoin d.field ((msh ++ (l.take 2).flatten) :: l.drop 2) := by unfold make; rw [if_pos rfl]
  rw [hmk]
  have hm' : (msh == [77, 83, 72]) = true := rfl
  have HJ := Lib.hid (fun w1 v1 h => djoin_calls (w := w1) (v := v1) ((msh ++ (l.take 2).flatten) :: l.drop 2) d.field h (by simp; omega) (by omega))
  have HSJ := Lib.hid (fun w1 v1 h => sjoin_calls (w := w1) (v := v1) (l.take 2) [] h (by simp; omega) (by rw [flat2]; omega))
  rw [flat2] at HSJ
  have hsrc2 : ∀ W, Chg No w W → Src W (.slice (some ⟨g, o + 2, none⟩) (l.length - 2) (cap - 2)) (strs (l.drop 2)) := by
    intro W hW
    obtain ⟨q', cap', hv, h1, h3⟩ := h
    obtain ⟨g', o', hq, h3⟩ := h3 (by rintro rfl; simp at h2)
    simp only [Value.slice.injEq] at hv
    obtain ⟨rfl, _, rfl⟩ := hv
    cases hq
    refine .inr ⟨⟨g, o + 2, none⟩, cap - 2, by simp, fun j u hu => ?_⟩
    have hj : j < l.length - 2 := by
      rcases Nat.lt_or_ge j (l.length - 2) with h | h
      · exact h
      · simp [h] at hu
    rw [addr_add, Nat.add_assoc, hW.cell (h3 (2 + j) (by omega)) (fun x => x)]
    simp at hu
    rw [List.getElem?_eq_getElem (by omega)] at hu
    simpa using hu
  have hmin : min ((l.length : Nat) : Int) 2 = 2 := by omega
  have hap := ofL_app msh (l.take 2).flatten
  have hl2 : (2 : Int) ≤ l.length := by omega
  have hc2 : (2 : Int) ≤ cap := by omega
  have hc3 : (l.length : Int) ≤ cap := by omega
  have HS := Lib.hid (h.take 2 h2)
  have HL := Lib.hid hl
  have HSRC := Lib.hid hsrc2
  have hsub : ((l.length : Int) - 2).toNat = l.length - 2 := by omega
  have HLD := Lib.hid (show (l.drop 2).length = l.length - 2 by simp)
  clear hmk hn hl h hsrc2
  generalize sepJoin d.field ((msh ++ (l.take 2).flatten) :: l.drop 2) = r at HJ
  have hml : msh.length = 3 := rfl
  generalize (l.take 2).flatten = f2 at HJ HSJ hap hn2
  unfold dv
  by_cases hcc : cap = 2
  · subst hcc
    obtain ⟨a, b, rfl⟩ : ∃ a b, l = [a, b] := by
      rcases l with _ | ⟨a, _ | ⟨b, _ | ⟨c, r⟩⟩⟩
      · simp at h2
      · simp at h2
      · exact ⟨a, b, rfl⟩
      · simp at hcap
    have HSRC0 : Hid (∀ W : World, Src W (.slice (some ⟨g, o, none⟩) 0 0) (strs [])) := Lib.hid fun W => .inr ⟨_, _, rfl, fun j u hu => by simp at hu⟩
    simp only [List.length_cons, List.length_nil, Nat.zero_add, Nat.reduceAdd, List.drop_succ_cons, List.drop_zero] at hmin hsub HJ HS HSJ ⊢
    clear hl2 hc2 hc3 h2 hcap hsub hmin HSRC HLD HL
    go_enter Tryz.func120, Tryz.ntmps120
    go_wp2_with fail
    refine (HSJ.out _ _ (HS.out.no ((Chg.refl No w).alloc _))).mono ?_
    rintro e w1 ⟨rfl, hc1⟩
    have k0 := (dv_box hc1).1
    have HC1 := Lib.hid (((Chg.refl No w).alloc _).trans hc1)
    clear hc1
    have k0d : w1.drew.cell? ⟨w.heap.size, 0, none⟩ = some (.int .u8 (d.field.toNat : Int)) := k0
    have k0a : ((w1.alloc (.cells #[.string (ofL (msh ++ f2))] 9)).drew).cell? ⟨w.heap.size, 0, none⟩ = some (.int .u8 (d.field.toNat : Int)) := cell_al k0 _
    go_wp2_with fail
    go_region_law ((first
      | (refine step_wp rfl ?_; refine wp_app _ _ 115 rfl 9 (.string ⟨#[]⟩) 16 Tryz.underlying115 elem_string rfl (.slice (some ⟨w1.heap.size, 0, none⟩) 1 1) [.string (ofL (msh ++ f2))] rfl ?o1 (.slice (some ⟨g, o, none⟩) 0 0) (strs []) rfl ?o2 (strs_one _) ?o3 ?o4 ?_; (case o1 => exact lit_own2 w1 (msh ++ f2)); (case o2 => exact HSRC0.out _); (case o3 => simp); (case o4 => simp [maxLen]); intro v2 w2 hown1 hchg1 hblk1 hf1; have HOWN1 := Lib.hid hown1; obtain ⟨k1, hc1⟩ := lit_k02 hchg1 HC1.out k0; have HC2 := Lib.hid hc1; clear hown1 hchg1 hblk1 hf1 hc1)
      | (go_simp; go_at_call 163; refine (HJ.out _ _ (Ss.of_own HOWN1.out)).mono ?_; rintro e w3 ⟨rfl, hc2⟩; have HC3 := Lib.hid (HC2.out.trans hc2); clear hc2)))
    all_goals
      go_wp2_with fail
      go_ret
      exact ⟨rfl, HC3.out⟩
  · have hcc' : ¬ (cap : Int) = 2 := by omega
    go_enter Tryz.func120, Tryz.ntmps120
    go_wp2_with fail
    refine (HSJ.out _ _ (HS.out.no ((Chg.refl No w).alloc _))).mono ?_
    rintro e w1 ⟨rfl, hc1⟩
    have k0 := (dv_box hc1).1
    have HC1 := Lib.hid (((Chg.refl No w).alloc _).trans hc1)
    clear hc1
    have k0d : w1.drew.cell? ⟨w.heap.size, 0, none⟩ = some (.int .u8 (d.field.toNat : Int)) := k0
    have k0a : ((w1.alloc (.cells #[.string (ofL (msh ++ f2))] 9)).drew).cell? ⟨w.heap.size, 0, none⟩ = some (.int .u8 (d.field.toNat : Int)) := cell_al k0 _
    go_wp2_with fail
    go_region_law ((first
      | (refine step_wp rfl ?_; refine wp_app _ _ 115 rfl 9 (.string ⟨#[]⟩) 16 Tryz.underlying115 elem_string rfl (.slice (some ⟨w1.heap.size, 0, none⟩) 1 1) [.string (ofL (msh ++ f2))] rfl ?o1 (.slice (some ⟨g, o + 2, none⟩) (l.length - 2) (cap - 2)) (strs (l.drop 2)) rfl ?o2 (strs_one _) ?o3 ?o4 ?_; (case o1 => exact lit_own2 w1 (msh ++ f2)); (case o2 => exact HSRC.out _ ((HC1.out.alloc _).drew)); (case o3 => (have := HL.out; simp; omega)); (case o4 => (have := HL.out; simp [maxLen]; omega)); intro v2 w2 hown1 hchg1 hblk1 hf1; have HOWN1 := Lib.hid hown1; obtain ⟨k1, hc1⟩ := lit_k02 hchg1 HC1.out k0; have HC2 := Lib.hid hc1; clear hown1 hchg1 hblk1 hf1 hc1)
      | (go_simp; go_at_call 163; refine (HJ.out _ _ (Ss.of_own HOWN1.out)).mono ?_; rintro e w3 ⟨rfl, hc2⟩; have HC3 := Lib.hid (HC2.out.trans hc2); clear hc2)))
    all_goals
      go_wp2_with fail
      go_ret
      exact ⟨rfl, HC3.out⟩
end Go.Proofs.YtgpmnicmgehmbaaGreatDoor


namespace Go.Proofs.YtgpmnicmgehmbaaGreatDoor
open Go.RowKit Lamp
set_option maxRecDepth 100000
set_option maxHeartbeats 400000

theorem others_calls (w : World) (d : Delims) : Calls Tryz.prog 91 #[dv d] w fun e w' => e = .returned (.string (ofL d.others)) ∧ Chg No w w' := by
  have hcv := run_text_lit (w.alloc (dvObj d)) d.others #[.int .u8 (d.part.toNat : Int), .int .u8 (d.again.toNat : Int), .int .u8 (d.esc.toNat : Int), .int .u8 (d.sub.toNat : Int)] (w.heap.size + 1) 4 (by simp [Delims.others, u8]) (by simp) rfl (by simp [Delims.others])
  unfold dv
  unfold dvObj at hcv
  go_enter Tryz.func91, Tryz.ntmps91
  go_wp2_with fail
  go_ret
  exact ⟨rfl, ((Chg.refl No w).alloc _).alloc _⟩

theorem mfirst_calls {w : World} (f : Bytes) (d : Delims) (hg : Glob w) (hf : f.length < 4294967281) :
    Calls Tryz.prog 158 #[.string (ofL f), dv d] w fun e w' => e = .returned (.string (ofL (first f d))) ∧ Chg No w w' := by
  have HP := Lib.hid (fun w1 h => part_calls (w := w1) f d h hf)
  unfold dv at HP ⊢
  go_enter Tryz.func158, Tryz.ntmps158
  go_wp2_with fail
  refine (HP.out _ (hg.no ((Chg.refl No w).alloc _))).mono ?_
  rintro e w1 ⟨rfl, hc⟩
  have HC := Lib.hid (((Chg.refl No w).alloc _).trans hc)
  clear hc
  go_wp2_with fail
  go_ret
  exact ⟨rfl, HC.out⟩

/-- A head's cells: the five signs, the ten texts. -/
abbrev headCells (d : Delims) (f : Nat → Bytes) : Array Value := #[.int .u8 (d.field.toNat : Int), .int .u8 (d.part.toNat : Int), .int .u8 (d.again.toNat : Int), .int .u8 (d.esc.toNat : Int), .int .u8 (d.sub.toNat : Int),
  .string (ofL (f 0)), .string (ofL (f 1)), .string (ofL (f 2)), .string (ofL (f 3)), .string (ofL (f 4)), .string (ofL (f 5)), .string (ofL (f 6)), .string (ofL (f 7)), .string (ofL (f 8)), .string (ofL (f 9))]
/-- A head's value. -/
abbrev hv (d : Delims) (f : Nat → Bytes) : Value := .agg (headCells d f)

/-- The functions of the table, in their order. -/
abbrev textFs : List Value := [.func (.func 129) #[] #[], .func (.func 130) #[] #[], .func (.func 131) #[] #[], .func (.func 132) #[] #[], .func (.func 133) #[] #[],
  .func (.func 134) #[] #[], .func (.func 135) #[] #[], .func (.func 136) #[] #[], .func (.func 137) #[] #[], .func (.func 138) #[] #[]]

theorem texts_calls (w : World) : Calls Tryz.prog 92 #[] w fun e w' => e = .returned (.agg textFs.toArray) ∧ Chg No w w' := by
  go_enter Tryz.func92, Tryz.ntmps92
  go_wp2_with fail
  refine bodyPost_ret (results_cell_row rfl _ _ w.heap.size 163 textFs.toArray (0, 0) _ rfl (heap_alloc_new _ _) Tryz.underlying163 rfl (by kernel_rfl)) rfl ⟨rfl, ?_⟩
  exact (Chg.refl No w).alloc _

theorem text1_calls (w : World) (g : Nat) : Calls Tryz.prog 129 #[.pointer (some ⟨g, 0, none⟩)] w fun e w' => e = .returned (.pointer (some ⟨g, 5, none⟩)) ∧ w = w' := by
  go_enter Tryz.func129, Tryz.ntmps129
  go_wp2_with fail
  go_ret
  exact ⟨rfl, rfl⟩
theorem text2_calls (w : World) (g : Nat) : Calls Tryz.prog 130 #[.pointer (some ⟨g, 0, none⟩)] w fun e w' => e = .returned (.pointer (some ⟨g, 6, none⟩)) ∧ w = w' := by
  go_enter Tryz.func130, Tryz.ntmps130
  go_wp2_with fail
  go_ret
  exact ⟨rfl, rfl⟩
theorem text3_calls (w : World) (g : Nat) : Calls Tryz.prog 131 #[.pointer (some ⟨g, 0, none⟩)] w fun e w' => e = .returned (.pointer (some ⟨g, 7, none⟩)) ∧ w = w' := by
  go_enter Tryz.func131, Tryz.ntmps131
  go_wp2_with fail
  go_ret
  exact ⟨rfl, rfl⟩
theorem text4_calls (w : World) (g : Nat) : Calls Tryz.prog 132 #[.pointer (some ⟨g, 0, none⟩)] w fun e w' => e = .returned (.pointer (some ⟨g, 8, none⟩)) ∧ w = w' := by
  go_enter Tryz.func132, Tryz.ntmps132
  go_wp2_with fail
  go_ret
  exact ⟨rfl, rfl⟩
theorem text5_calls (w : World) (g : Nat) : Calls Tryz.prog 133 #[.pointer (some ⟨g, 0, none⟩)] w fun e w' => e = .returned (.pointer (some ⟨g, 9, none⟩)) ∧ w = w' := by
  go_enter Tryz.func133, Tryz.ntmps133
  go_wp2_with fail
  go_ret
  exact ⟨rfl, rfl⟩
theorem text6_calls (w : World) (g : Nat) : Calls Tryz.prog 134 #[.pointer (some ⟨g, 0, none⟩)] w fun e w' => e = .returned (.pointer (some ⟨g, 10, none⟩)) ∧ w = w' := by
  go_enter Tryz.func134, Tryz.ntmps134
  go_wp2_with fail
  go_ret
  exact ⟨rfl, rfl⟩
theorem text7_calls (w : World) (g : Nat) : Calls Tryz.prog 135 #[.pointer (some ⟨g, 0, none⟩)] w fun e w' => e = .returned (.pointer (some ⟨g, 11, none⟩)) ∧ w = w' := by
  go_enter Tryz.func135, Tryz.ntmps135
  go_wp2_with fail
  go_ret
  exact ⟨rfl, rfl⟩
theorem text8_calls (w : World) (g : Nat) : Calls Tryz.prog 136 #[.pointer (some ⟨g, 0, none⟩)] w fun e w' => e = .returned (.pointer (some ⟨g, 12, none⟩)) ∧ w = w' := by
  go_enter Tryz.func136, Tryz.ntmps136
  go_wp2_with fail
  go_ret
  exact ⟨rfl, rfl⟩
theorem text9_calls (w : World) (g : Nat) : Calls Tryz.prog 137 #[.pointer (some ⟨g, 0, none⟩)] w fun e w' => e = .returned (.pointer (some ⟨g, 13, none⟩)) ∧ w = w' := by
  go_enter Tryz.func137, Tryz.ntmps137
  go_wp2_with fail
  go_ret
  exact ⟨rfl, rfl⟩
theorem text10_calls (w : World) (g : Nat) : Calls Tryz.prog 138 #[.pointer (some ⟨g, 0, none⟩)] w fun e w' => e = .returned (.pointer (some ⟨g, 14, none⟩)) ∧ w = w' := by
  go_enter Tryz.func138, Tryz.ntmps138
  go_wp2_with fail
  go_ret
  exact ⟨rfl, rfl⟩

theorem scontains_calls {w : World} {v : Value} (l : List Bytes) (x : Bytes) (h : Ss w v l) (hne : l ≠ []) (hl : l.length ≤ 1000000) :
    Calls Tryz.prog 95 #[v, .string (ofL x)] w fun e w' => e = .returned (.bool (decide (x ∈ l))) ∧ w = w' := by
  obtain ⟨q, cap, rfl, h1, h2⟩ := h
  obtain ⟨g, o, rfl, h3⟩ := h2 hne
  have hx : Lib.containsS ((l.map ofL).take l.length) (ofL x) = decide (x ∈ l) := by
    rw [List.take_of_length_le (by simp), Bool.eq_iff_iff, Lib.containsS_iff]
    simp only [List.mem_map, decide_eq_true_eq]
    constructor
    · rintro ⟨y, hy, he⟩
      rw [← ofL_inj he]; exact hy
    · intro hm; exact ⟨x, hm, rfl⟩
  refine (Tryz.slices_Contains_string g o l.length cap (l.map ofL) (ofL x) w (by simp) (by omega) ?_).mono ?_
  · intro j hj
    have hj : j < l.length := by simpa using hj
    rw [h3 j hj]
    simp [List.getD, hj]
  · rintro e w' ⟨rfl, rfl⟩
    exact ⟨by rw [hx], rfl⟩

theorem Glob.versS {w : World} (h : Glob w) : Ss w (.slice (some ⟨2, 0, none⟩) 10 10) versions :=
  ⟨_, _, rfl, Nat.le_refl _, fun _ => ⟨_, 0, rfl, fun k hk => by rw [Nat.zero_add]; exact h.vers k _ (by simp [hk])⟩⟩
theorem Glob.codesS {w : World} (h : Glob w) : Ss w (.slice (some ⟨1, 0, none⟩) 3 3) [aa, ae, ar] :=
  ⟨_, _, rfl, Nat.le_refl _, fun _ => ⟨_, 0, rfl, fun k hk => by rw [Nat.zero_add]; exact h.codes k _ (by simp)⟩⟩

theorem known_calls {w : World} (hg : Glob w) (c : Bytes) : Calls Tryz.prog 65 #[.string (ofL c)] w fun e w' => e = .returned (.bool (known c)) ∧ w = w' := by
  have HC := Lib.hid (scontains_calls [aa, ae, ar] c hg.codesS (by simp) (by decide))
  have hk : decide (c ∈ [aa, ae, ar]) = known c := by
    unfold known
    rw [Bool.eq_iff_iff]
    simp
    constructor
    · rintro (h | h | h) <;> simp [h]
    · rintro ((h | h) | h) <;> simp [h]
  rw [hk] at HC
  clear hk
  go_enter Tryz.func65, Tryz.ntmps65
  go_wp2_with fail
  refine HC.out.mono ?_
  rintro e w1 ⟨rfl, rfl⟩
  go_wp2_with fail
  go_ret
  exact ⟨rfl, rfl⟩

def checkF (d : Delims) (f : Nat → Bytes) : Int :=
  if f 6 = [] ∨ f 7 = [] ∨ 50 < (f 7).length then 14
  else if first (f 9) d ∉ versions then 12
  else if first (f 8) d ∉ [[80], [68], [84]] then 13
  else 0
/-- A head of these texts. -/
abbrev headOf (d : Delims) (f : Nat → Bytes) : Head := ⟨d, [f 0, f 1, f 2, f 3, f 4, f 5, f 6, f 7, f 8, f 9]⟩
theorem check_of (d : Delims) (f : Nat → Bytes) : check (headOf d f) = checkF d f := rfl

theorem check_bad {w : World} (d : Delims) (f : Nat → Bytes) (h : f 6 = [] ∨ f 7 = [] ∨ 50 < (f 7).length) :
    Calls Tryz.prog 109 #[hv d f] w fun e w' => e = .returned (.int .i64 14) ∧ Chg No w w' := by
  have hq : (f 6).isEmpty = true ∨ ((f 6).isEmpty = false ∧ (f 7).isEmpty = true) ∨ ((f 6).isEmpty = false ∧ (f 7).isEmpty = false ∧ decide (50 < ((f 7).length : Int)) = true) := by
    by_cases h6 : f 6 = []
    · exact .inl (by simp [h6])
    · by_cases h7 : f 7 = []
      · exact .inr (.inl ⟨by simpa using h6, by simp [h7]⟩)
      · refine .inr (.inr ⟨by simpa using h6, by simpa using h7, ?_⟩)
        rcases h with h | h | h
        · exact absurd h h6
        · exact absurd h h7
        · simp; omega
  clear h
  unfold hv headCells
  generalize f 0 = f0, f 1 = f1, f 2 = f2, f 3 = f3, f 4 = f4, f 5 = f5, f 6 = f6, f 7 = f7, f 8 = f8, f 9 = f9 at hq ⊢
  rcases hq with h6 | ⟨h6, h7⟩ | ⟨h6, h7, h8⟩
  all_goals
    go_enter Tryz.func109, Tryz.ntmps109
    go_wp2_with fail
    go_ret
    exact ⟨rfl, (Chg.refl No w).alloc _⟩
end Go.Proofs.YtgpmnicmgehmbaaGreatDoor


namespace Go.Proofs.YtgpmnicmgehmbaaGreatDoor
open Go.RowKit Lamp

/-- A world in which all that was in w is as it was. -/
structure Kept (w : World) where
  v : World
  chg : Chg No w v
instance (w : World) : Inhabited (Kept w) := ⟨⟨w, Chg.refl _ _⟩⟩

theorem wp_region_kept {P : Program} {id : Nat} {Q : Exit → Act → World → Prop} {a : Act} {w : World} {l : List Oper} (hm : P.follows .mixedOrders = true) (hB : Region.lexB .any l.toArray = true)
    (h : wpQuiet P l.toArray (fun w' => ∃ p : Kept w, w' = p.v) (fun a' => ∀ w', (∃ p : Kept w, w' = p.v) → Q .normal a' w') l a) : (Code.region id l.toArray true).wp P Q a w :=
  wp_region_quiet (C := fun w' => ∃ p : Kept w, w' = p.v) hm hB ⟨⟨_, (Chg.refl No w).drew⟩, rfl⟩ (by simpa using h)

theorem Calls.kept_of {P : Program} {f : FuncId} {args : Array Value} {w : World} {p : Kept w} {v : Value}
    (h : Calls P f args p.v fun e w' => e = .returned v ∧ Chg No p.v w') : Calls P f args p.v fun e w'' => e = .returned v ∧ ∃ p' : Kept w, w'' = p'.v :=
  h.mono fun _ w' ⟨he, hc⟩ => ⟨he, ⟨w', p.chg.trans hc⟩, rfl⟩
theorem Kept.cell {w : World} {a : Addr} {v : Value} (h : w.cell? a = some v) (p : Kept w) : p.v.cell? a = some v := p.chg.cell h (fun x => x)
end Go.Proofs.YtgpmnicmgehmbaaGreatDoor


namespace Go.Proofs.YtgpmnicmgehmbaaGreatDoor
open Go.RowKit Lamp
set_option maxRecDepth 100000
set_option maxHeartbeats 400000

theorem check_good {w : World} (d : Delims) (f : Nat → Bytes) (hg : Glob w) (h6 : f 6 ≠ []) (h7 : f 7 ≠ []) (h8 : (f 7).length ≤ 50) (hl8 : (f 8).length < 4294967281) (hl9 : (f 9).length < 4294967281) :
    Calls Tryz.prog 109 #[hv d f] w fun e w' => e = .returned (.int .i64 (checkF d f)) ∧ Chg No w w' := by
  have hch : checkF d f = if decide (first (f 9) d ∈ versions) = false then 12 else if decide (first (f 8) d ∈ [[80], [68], [84]]) = false then 13 else 0 := by
    unfold checkF
    rw [if_neg (by simp [h6, h7]; omega)]
    simp only [decide_eq_false_iff_not]
  rw [hch]
  have t6 : (f 6).isEmpty = false := by simpa using h6
  have t7 : (f 7).isEmpty = false := by simpa using h7
  have t8 : decide (50 < ((f 7).length : Int)) = false := by simp; omega
  clear hch h6 h7 h8
  unfold hv headCells
  generalize f 0 = f0, f 1 = f1, f 2 = f2, f 3 = f3, f 4 = f4, f 5 = f5, f 6 = f6, f 7 = f7, f 8 = f8, f 9 = f9 at *
  obtain ⟨W, hW⟩ : ∃ W, w.alloc (.cells #[.int .u8 (d.field.toNat : Int), .int .u8 (d.part.toNat : Int), .int .u8 (d.again.toNat : Int), .int .u8 (d.esc.toNat : Int), .int .u8 (d.sub.toNat : Int),
    .string (ofL f0), .string (ofL f1), .string (ofL f2), .string (ofL f3), .string (ofL f4), .string (ofL f5), .string (ofL f6), .string (ofL f7), .string (ofL f8), .string (ofL f9)] 112) = W := ⟨_, rfl⟩
  have hcW : Chg No w W := by rw [← hW]; exact (Chg.refl No w).alloc _
  have hb : W.heap[w.heap.size]? = some (.cells #[.int .u8 (d.field.toNat : Int), .int .u8 (d.part.toNat : Int), .int .u8 (d.again.toNat : Int), .int .u8 (d.esc.toNat : Int), .int .u8 (d.sub.toNat : Int),
    .string (ofL f0), .string (ofL f1), .string (ofL f2), .string (ofL f3), .string (ofL f4), .string (ofL f5), .string (ofL f6), .string (ofL f7), .string (ofL f8), .string (ofL f9)] 112 (0, 0)) := by rw [← hW]; exact heap_alloc_new _ _
  have c0 := cell_blk hb 0
  have c1 := cell_blk hb 1
  have c2 := cell_blk hb 2
  have c3 := cell_blk hb 3
  have c4 := cell_blk hb 4
  have c11 := cell_blk hb 11
  have c12 := cell_blk hb 12
  have c13 := cell_blk hb 13
  have c14 := cell_blk hb 14
  simp only [List.getElem?_toArray, List.getElem?_cons_succ, List.getElem?_cons_zero] at c0 c1 c2 c3 c4 c11 c12 c13 c14
  have q0 := fun p : Kept W => p.cell c0
  have q1 := fun p : Kept W => p.cell c1
  have q2 := fun p : Kept W => p.cell c2
  have q3 := fun p : Kept W => p.cell c3
  have q4 := fun p : Kept W => p.cell c4
  have q14 := fun p : Kept W => p.cell c14
  have HF := Lib.hid (fun p : Kept W => mfirst_calls (w := p.v) f9 d (hg.no (hcW.trans p.chg)) hl9)
  have HC := Lib.hid (fun p : Kept W => (scontains_calls (w := p.v) versions (first f9 d) (hg.no (hcW.trans p.chg)).versS (by decide) (by decide)).mono (R' := fun e w' => e = .returned (.bool (decide (first f9 d ∈ versions))) ∧ Chg No p.v w') (fun e w' h => ⟨h.1, h.2 ▸ Chg.refl No _⟩))
  have HCW := Lib.hid hcW
  have HB := Lib.hid hb
  clear hcW hb
  unfold dv at HF
  generalize decide (first f9 d ∈ versions) = bv at HC ⊢
  generalize first f9 d = x9 at HF HC
  have HCP := Lib.hid (fun w1 v1 h => scontains_calls (w := w1) (v := v1) [[80], [68], [84]] (first f8 d) h (by simp) (by simp))
  generalize decide (first f8 d ∈ [[80], [68], [84]]) = bp at HCP ⊢
  go_enter Tryz.func109, Tryz.ntmps109
  go_wp2_with fail
  refine wp_region_kept (by kernel_rfl) (by kernel_rfl) ?_
  repeat (go_big_quiet_step ((first | (go_at_call 158; exact Calls.kept_of (HF.out _)) | (go_at_call 95; exact Calls.kept_of (HC.out _)))))
  refine wpQuiet_nil ?_
  rintro w3 ⟨⟨w3', hc3⟩, he⟩
  replace he : w3 = w3' := he
  subst he
  try dsimp only
  try dsimp only at hc3
  have hb3 := hc3.heap HB.out (fun x => x)
  have HC3 := Lib.hid (HCW.out.trans hc3)
  clear q0 q1 q2 q3 q4 q14 HF HC c0 c1 c2 c3 c4 c11 c12 c13 c14 hc3
  obtain hbv | hbv : bv = false ∨ bv = true := by cases bv <;> simp
  · subst hbv
    clear hb3
    go_wp2_with fail
    go_ret
    exact ⟨rfl, HC3.out⟩
  · subst hbv
    have c0 := cell_blk hb3 0
    have c1 := cell_blk hb3 1
    have c2 := cell_blk hb3 2
    have c3 := cell_blk hb3 3
    have c4 := cell_blk hb3 4
    have c13 := cell_blk hb3 13
    simp only [List.getElem?_toArray, List.getElem?_cons_succ, List.getElem?_cons_zero] at c0 c1 c2 c3 c4 c13
    obtain ⟨W4, hW4⟩ : ∃ W4, w3.alloc (.cells #[.string ⟨#[80]⟩, .string ⟨#[68]⟩, .string ⟨#[84]⟩] 9) = W4 := ⟨_, rfl⟩
    have hss : Ss W4 (.slice (some ⟨w3.heap.size, 0, none⟩) 3 3) [[80], [68], [84]] := by rw [← hW4]; exact Ss.lit w3 [[80], [68], [84]] _ rfl
    have hc4 : Chg No w3 W4 := by rw [← hW4]; exact (Chg.refl No w3).alloc _
    have HF := Lib.hid (mfirst_calls (w := W4) f8 d (hg.no (HC3.out.trans hc4)) hl8)
    unfold dv at HF
    have HSS := Lib.hid hss
    have HC4 := Lib.hid hc4
    have hk := fun a v (h : w3.cell? a = some v) => hc4.cell h (fun x => x)
    have d0 := hk _ _ c0
    have d1 := hk _ _ c1
    have d2 := hk _ _ c2
    have d3 := hk _ _ c3
    have d4 := hk _ _ c4
    have d13 := hk _ _ c13
    clear hss hc4 hb3 c0 c1 c2 c3 c4 c13 hk
    go_wp2_with fail
    refine HF.out.mono ?_
    rintro e w5 ⟨rfl, hc5⟩
    have HC5 := Lib.hid hc5
    clear hc5
    go_wp2_with fail
    refine (HCP.out w5 _ (HSS.out.no HC5.out)).mono ?_
    rintro e w6 ⟨rfl, rfl⟩
    have HD := Lib.hid ((HC3.out.trans HC4.out).trans HC5.out)
    obtain hbp | hbp : bp = false ∨ bp = true := by cases bp <;> simp
    all_goals subst hbp
    all_goals
      go_wp2_with fail
      go_ret
      exact ⟨rfl, HD.out⟩

theorem check_calls {w : World} (d : Delims) (f : Nat → Bytes) (hg : Glob w) (hl : ∀ i < 10, (f i).length < 4294967281) :
    Calls Tryz.prog 109 #[hv d f] w fun e w' => e = .returned (.int .i64 (checkF d f)) ∧ Chg No w w' := by
  by_cases h : f 6 = [] ∨ f 7 = [] ∨ 50 < (f 7).length
  · have hc : checkF d f = 14 := by unfold checkF; rw [if_pos h]
    rw [hc]
    exact check_bad d f h
  · simp only [not_or] at h
    exact check_good d f hg h.1 h.2.1 (by omega) (hl 8 (by decide)) (hl 9 (by decide))
end Go.Proofs.YtgpmnicmgehmbaaGreatDoor


namespace Go.Proofs.YtgpmnicmgehmbaaGreatDoor
open Go.RowKit Lamp
set_option maxRecDepth 100000
set_option maxHeartbeats 400000

def dv0 : Value := .agg #[.int .u8 0, .int .u8 0, .int .u8 0, .int .u8 0, .int .u8 0]
theorem dread_short (w : World) (v : Value) (b : Bytes) (h : Bs w v b) (hl : b.length < 9) :
    Calls Tryz.prog 90 #[v] w fun e w' => e = .returned (.tuple #[dv0, .int .i64 7]) ∧ Chg No w w' := by
  obtain ⟨q, cap, rfl, h1, h2, h3, h4⟩ := h
  have hl' : (b.length : Int) < 9 := by omega
  clear h3 h4
  go_enter Tryz.func90, Tryz.ntmps90
  go_wp2_with fail
  refine bodyPost_ret (results_cell_tmp_row rfl _ _ w.heap.size 110 #[.int .u8 0, .int .u8 0, .int .u8 0, .int .u8 0, .int .u8 0] (0, 0) _ rfl (heap_alloc_new _ _) Tryz.underlying110 rfl (by kernel_rfl)) rfl ⟨rfl, ?_⟩
  exact (Chg.refl No w).alloc _

theorem Bs.prefix_in {w : World} {q : Option Addr} {n : Nat} {l : Bytes} (h : Lib.BytesIn w q l.length (nums l)) (hn : n ≤ l.length) : Lib.BytesIn w q n (nums (l.take n)) := by
  intro h0
  obtain ⟨b, o, hq, hx⟩ := h (by omega)
  refine ⟨b, o, hq, fun i hi => ?_⟩
  rw [hx i (by omega), nums_getD _ _ (by omega), nums_getD _ _ (by simp; omega)]
  simp

theorem conv_at (w : World) (C : Array Value) (n c g : Nat) (hg : g = w.heap.size) :
    (convert 22 22 (.slice (some ⟨g, 0, none⟩) n c)).run Tryz.prog (w.alloc (.cells C 5)) = .ok (.slice (some ⟨g, 0, none⟩) n c) (w.alloc (.cells C 5 (C.size, C.size + 1))) := by
  subst hg; exact Lib.run_convert_bytes_const w 22 5 C n c Tryz.underlying22 Tryz.underlying5
/-- The world behind the zero answer and the word MSH. -/
abbrev headW (w : World) : World := (w.alloc (.cells #[.int .u8 0, .int .u8 0, .int .u8 0, .int .u8 0, .int .u8 0] 110)).alloc (.cells #[.int .u8 77, .int .u8 83, .int .u8 72] 5 (3, 4))

/-- Nine bytes at least; the head isn't MSH. -/
theorem dread_head (w : World) (v : Value) (b : Bytes) (h : Bs w v b) (hl : 9 ≤ b.length) (hp : Lib.hasPrefix (b.take 9) [77, 83, 72] = false) :
    Calls Tryz.prog 90 #[v] w fun e w' => e = .returned (.tuple #[dv0, .int .i64 11]) ∧ Chg No w w' := by
  obtain ⟨q, cap, rfl, h1, h2, h3, h4⟩ := h
  have hl' : decide ((b.length : Int) < 9) = false := by simp; omega
  have hcap : (9 : Int) ≤ cap := by omega
  obtain ⟨bb, o, rfl, _⟩ := h4 (by omega)
  have h9 : (b.take 9).length = 9 := by simp; omega
  have hc : Chg No w (headW w) := ((Chg.refl No w).alloc _).alloc _
  have HCP := Lib.hid (cutPrefix_calls (l := b.take 9) (l2 := [77, 83, 72]) (cap := cap) (cap2 := 3) (p2 := some ⟨w.heap.size + 1, 0, none⟩) (by omega)
    (BytesIn.chg (by rw [h9]; exact Bs.prefix_in h4 hl) hc (fun _ _ _ _ x => x)) (fun _ => ⟨w.heap.size + 1, 0, rfl, fun i hi => by
      rw [cell_blk (by rw [show w.heap.size + 1 = (w.alloc (.cells #[.int .u8 0, .int .u8 0, .int .u8 0, .int .u8 0, .int .u8 0] 110)).heap.size from by simp]; exact heap_alloc_new _ _)]
      have : i = 0 ∨ i = 1 ∨ i = 2 := by simp at hi; omega
      rcases this with rfl | rfl | rfl <;> rfl⟩))
  rw [h9, hp] at HCP
  have ht : Lib.trimPrefixV (some ⟨bb, o, none⟩) 9 cap (nums (b.take 9)) (nums [77, 83, 72]) = .slice (some ⟨bb, o, none⟩) 9 cap := by
    simp only [Lib.trimPrefixV, nums, List.map_cons, Lib.bytesTrimPrefix]
    rw [if_neg]
    have := bytesOf_nums (b.take 9)
    have h2 := bytesOf_nums [77, 83, 72]
    simp only [nums, List.map_cons] at this h2
    rw [this, h2, hp]
    simp
  rw [ht] at HCP
  simp only [List.length_cons, List.length_nil, Nat.reduceAdd] at HCP
  clear h4 ht hp h3
  have hcv := conv_at (w.alloc (.cells #[.int .u8 0, .int .u8 0, .int .u8 0, .int .u8 0, .int .u8 0] 110)) #[.int .u8 77, .int .u8 83, .int .u8 72] 3 3 (w.heap.size + 1) (by simp)
  simp only [List.size_toArray, List.length_cons, List.length_nil, Nat.reduceAdd] at hcv
  go_enter Tryz.func90, Tryz.ntmps90
  go_wp2_with fail
  refine HCP.out.mono ?_
  rintro e w1 ⟨rfl, rfl⟩
  go_wp2_with fail
  refine bodyPost_ret (results_cell_tmp_row rfl _ _ w.heap.size 110 #[.int .u8 0, .int .u8 0, .int .u8 0, .int .u8 0, .int .u8 0] (0, 0) _ rfl ?_ Tryz.underlying110 rfl (by kernel_rfl)) rfl ⟨rfl, hc⟩
  rw [Below.heap_alloc _ _ _ (by simp)]
  exact heap_alloc_new _ _

theorem store_five {w3 : World} {H : Nat} {T : TypeId} {a0 a1 a2 a3 a4 : Value} (h : w3.heap[H]? = some (.cells #[a0, a1, a2, a3, a4] T)) (v0 v1 v2 v3 v4 : Value) :
    (((((w3.setCell ⟨H, 0, none⟩ v0).setCell ⟨H, 1, none⟩ v1).setCell ⟨H, 2, none⟩ v2).setCell ⟨H, 3, none⟩ v3).setCell ⟨H, 4, none⟩ v4).heap[H]? = some (.cells #[v0, v1, v2, v3, v4] T) := by
  rw [set_blk (set_blk (set_blk (set_blk (set_blk h 0 v0) 1 v1) 2 v2) 3 v3) 4 v4]
  simp
theorem chg_five {w w3 : World} {H : Nat} (h : Chg No w w3) (hH : w.heap.size ≤ H) (v0 v1 v2 v3 v4 : Value) :
    Chg No w (((((w3.setCell ⟨H, 0, none⟩ v0).setCell ⟨H, 1, none⟩ v1).setCell ⟨H, 2, none⟩ v2).setCell ⟨H, 3, none⟩ v3).setCell ⟨H, 4, none⟩ v4) :=
  ((((h.setCell (.inr hH) _).setCell (.inr hH) _).setCell (.inr hH) _).setCell (.inr hH) _).setCell (.inr hH) _

/-- How a reading ends. -/
def endDelims : Except Int Delims → Ending
  | .ok d => .returned (.tuple #[dv d, .int .i64 0])
  | .error e => .returned (.tuple #[dv0, .int .i64 e])

theorem dread_signs (w : World) (v : Value) (f p a e u x : UInt8) (r : Bytes) (h : Bs w v (77 :: 83 :: 72 :: f :: p :: a :: e :: u :: x :: r)) :
    Calls Tryz.prog 90 #[v] w fun e1 w' => e1 = endDelims (delimRead (77 :: 83 :: 72 :: f :: p :: a :: e :: u :: x :: r)) ∧ Chg No w w' := by
  have HS : Hid (delimRead (77 :: 83 :: 72 :: f :: p :: a :: e :: u :: x :: r) = if (Delims.mk f p a e u).right = true ∧ (x = f ∨ x = 13) then .ok ⟨f, p, a, e, u⟩ else .error 11) := by
    show delimRead _ = _
    simp [delimRead]
  generalize delimRead (77 :: 83 :: 72 :: f :: p :: a :: e :: u :: x :: r) = res at HS ⊢
  obtain ⟨q, cap, rfl, h1, h2, h3, h4⟩ := h
  generalize hb : (77 :: 83 :: 72 :: f :: p :: a :: e :: u :: x :: r : Bytes) = b at *
  have hl : 9 ≤ b.length := by rw [← hb]; simp
  have ht9 : b.take 9 = [77, 83, 72, f, p, a, e, u, x] := by rw [← hb]; rfl
  have hl' : decide ((b.length : Int) < 9) = false := by simp; omega
  have hcap : (9 : Int) ≤ cap := by omega
  obtain ⟨bb, o, rfl, hcells⟩ := h4 (by omega)
  have hc : Chg No w (headW w) := ((Chg.refl No w).alloc _).alloc _
  have HCP := Lib.hid (cutPrefix_calls (l := b.take 9) (l2 := [77, 83, 72]) (cap := cap) (cap2 := 3) (p2 := some ⟨w.heap.size + 1, 0, none⟩) (by simp; omega)
    (BytesIn.chg (by rw [show (b.take 9).length = 9 from by simp; omega]; exact Bs.prefix_in h4 hl) hc (fun _ _ _ _ x => x)) (fun _ => ⟨w.heap.size + 1, 0, rfl, fun i hi => by
      rw [cell_blk (by rw [show w.heap.size + 1 = (w.alloc (.cells #[.int .u8 0, .int .u8 0, .int .u8 0, .int .u8 0, .int .u8 0] 110)).heap.size from by simp]; exact heap_alloc_new _ _)]
      have : i = 0 ∨ i = 1 ∨ i = 2 := by simp at hi; omega
      rcases this with rfl | rfl | rfl <;> rfl⟩))
  have ht : Lib.trimPrefixV (some ⟨bb, o, none⟩) 9 cap (nums (b.take 9)) (nums [77, 83, 72]) = .slice (some ⟨bb, o + 3, none⟩) 6 (cap - 3) := by
    rw [ht9]
    simp only [Lib.trimPrefixV, nums, List.map_cons, Lib.bytesTrimPrefix, Lib.sliceFrom]
    rw [if_pos]
    · rw [if_neg (by simp; omega)]
      rfl
    · have h0 := bytesOf_nums [77, 83, 72, f, p, a, e, u, x]
      have h2 := bytesOf_nums [77, 83, 72]
      simp only [nums, List.map_cons] at h0 h2
      rw [h0, h2]
      simp [Lib.hasPrefix]
  have hpx : Lib.hasPrefix (b.take 9) [77, 83, 72] = true := by rw [ht9]; simp [Lib.hasPrefix]
  rw [show (b.take 9).length = 9 from by simp; omega, ht, hpx] at HCP
  simp only [List.length_cons, List.length_nil, Nat.reduceAdd] at HCP
  have hcell : ∀ k (c : UInt8), b[k]? = some c → w.cell? ⟨bb, o + k, none⟩ = some (.int .u8 (c.toNat : Int)) := by
    intro k c hk
    obtain ⟨hkl, rfl⟩ := List.getElem?_eq_some_iff.1 hk
    rw [hcells k hkl, nums_getD b k hkl]
  have k3 := hc.cell (hcell 3 f (by rw [← hb]; rfl)) (fun x => x)
  have k4 := hc.cell (hcell 4 p (by rw [← hb]; rfl)) (fun x => x)
  have k5 := hc.cell (hcell 5 a (by rw [← hb]; rfl)) (fun x => x)
  have k6 := hc.cell (hcell 6 e (by rw [← hb]; rfl)) (fun x => x)
  have k7 := hc.cell (hcell 7 u (by rw [← hb]; rfl)) (fun x => x)
  have k8 := hc.cell (hcell 8 x (by rw [← hb]; rfl)) (fun x => x)
  have hz : (headW w).heap[w.heap.size]? = some (.cells #[.int .u8 0, .int .u8 0, .int .u8 0, .int .u8 0, .int .u8 0] 110) := by
    rw [Below.heap_alloc _ _ _ (by simp)]
    exact heap_alloc_new _ _
  have hcv := conv_at (w.alloc (.cells #[.int .u8 0, .int .u8 0, .int .u8 0, .int .u8 0, .int .u8 0] 110)) #[.int .u8 77, .int .u8 83, .int .u8 72] 3 3 (w.heap.size + 1) (by simp)
  simp only [List.size_toArray, List.length_cons, List.length_nil, Nat.reduceAdd] at hcv
  have hsz : (headW w).heap.size = w.heap.size + 2 := by simp
  clear h4 ht hpx h3 hcells hcell ht9 hb
  have HC := Lib.hid hc
  have HZ := Lib.hid hz
  clear hc hz
  go_enter Tryz.func90, Tryz.ntmps90
  go_wp2_with fail
  refine HCP.out.mono ?_
  rintro e1 w1 ⟨rfl, rfl⟩
  generalize headW w = W at HC HZ hsz k3 k4 k5 k6 k7 k8 ⊢
  clear hcv HCP
  go_wp2_with fail
  go_region_held3 (fun w' => w'.cell? ⟨bb, o + 3, none⟩ = some (.int .u8 (f.toNat : Int)) ∧ w'.cell? ⟨bb, o + 4, none⟩ = some (.int .u8 (p.toNat : Int)) ∧ w'.cell? ⟨bb, o + 5, none⟩ = some (.int .u8 (a.toNat : Int)) ∧ w'.cell? ⟨bb, o + 6, none⟩ = some (.int .u8 (e.toNat : Int)) ∧ w'.cell? ⟨bb, o + 7, none⟩ = some (.int .u8 (u.toNat : Int))) (go_keep) (fail)
  go_wp2_with fail
  have B6 : (W.alloc (.cells #[.int .u8 (f.toNat : Int), .int .u8 (p.toNat : Int), .int .u8 (a.toNat : Int), .int .u8 (e.toNat : Int), .int .u8 (u.toNat : Int)] 110)).drew.heap[w.heap.size + 2]? = some (.cells #[.int .u8 (f.toNat : Int), .int .u8 (p.toNat : Int), .int .u8 (a.toNat : Int), .int .u8 (e.toNat : Int), .int .u8 (u.toNat : Int)] 110) := by
    rw [← hsz]; exact heap_alloc_new W _
  have C2 : Chg No W (W.alloc (.cells #[.int .u8 (f.toNat : Int), .int .u8 (p.toNat : Int), .int .u8 (a.toNat : Int), .int .u8 (e.toNat : Int), .int .u8 (u.toNat : Int)] 110)).drew := ((Chg.refl No W).alloc _).drew
  generalize (W.alloc (.cells #[.int .u8 (f.toNat : Int), .int .u8 (p.toNat : Int), .int .u8 (a.toNat : Int), .int .u8 (e.toNat : Int), .int .u8 (u.toNat : Int)] 110)).drew = W2 at B6 C2 ⊢
  have HC2 := Lib.hid (HC.out.trans C2)
  have HZ2 := Lib.hid (C2.heap HZ.out (fun x => x))
  have HB6 := Lib.hid B6
  have HK8 := Lib.hid (C2.cell k8 (fun x => x))
  have d0 := cell_blk B6 0
  have d1 := cell_blk B6 1
  have d2 := cell_blk B6 2
  have d3 := cell_blk B6 3
  have d4 := cell_blk B6 4
  simp only [List.getElem?_toArray, List.getElem?_cons_succ, List.getElem?_cons_zero] at d0 d1 d2 d3 d4
  have HAF : Hid (∀ w3, Chg No W2.drew w3 → w3.cell? ⟨bb, o + 8, none⟩ = some (.int .u8 (x.toNat : Int)) ∧ w3.cell? ⟨w.heap.size + 2, 0, none⟩ = some (.int .u8 (f.toNat : Int))) :=
    fun w3 h => ⟨h.cell (a := ⟨bb, o + 8, none⟩) HK8.out (fun x => x), h.cell (a := ⟨w.heap.size + 2, 0, none⟩) (cell_blk HB6.out 0) (fun x => x)⟩
  have HRT := Lib.hid (fun W => right_calls W ⟨f, p, a, e, u⟩)
  unfold dv at HRT
  generalize (Delims.mk f p a e u).right = R at HS HRT
  clear B6 C2 k3 k4 k5 k6 k7 k8 HC HZ
  have q0 := fun p : Kept W2 => p.cell d0
  have q1 := fun p : Kept W2 => p.cell d1
  have q2 := fun p : Kept W2 => p.cell d2
  have q3 := fun p : Kept W2 => p.cell d3
  have q4 := fun p : Kept W2 => p.cell d4
  have q8 := fun p : Kept W2 => p.cell HK8.out
  cases R with
  | false =>
    refine wp_region_kept (by kernel_rfl) (by kernel_rfl) ?_
    repeat (go_big_quiet_step ((go_at_call 128; exact Calls.kept_of (HRT.out _))))
    refine wpQuiet_nil ?_
    rintro _ ⟨⟨w3, hc3⟩, rfl⟩
    try dsimp only
    try dsimp only at hc3
    have hres : res = .error 11 := by rw [HS.out]; simp 
    subst hres
    have z := hc3.heap HZ2.out (fun x => x)
    have z0 := free_blk z 0
    have z1 := free_blk z 1
    have z2 := free_blk z 2
    have z3 := free_blk z 3
    have z4 := free_blk z 4
    have y0 := cell_blk z 0
    have y1 := cell_blk z 1
    have y2 := cell_blk z 2
    have y3 := cell_blk z 3
    have y4 := cell_blk z 4
    simp only [List.getElem?_toArray, List.getElem?_cons_succ, List.getElem?_cons_zero] at y0 y1 y2 y3 y4
    have HZ3 := Lib.hid z
    clear z
    go_wp2_with fail
    refine bodyPost_ret (results_cell_tmp_row rfl _ _ w.heap.size 110 #[.int .u8 0, .int .u8 0, .int .u8 0, .int .u8 0, .int .u8 0] (0, 0) _ rfl (store_five HZ3.out _ _ _ _ _) Tryz.underlying110 rfl (by kernel_rfl)) rfl ⟨rfl, ?_⟩
    exact chg_five (HC2.out.trans hc3) (Nat.le_refl _) _ _ _ _ _
  | true =>
    by_cases hx : x = f
    · have hx1 : ((x.toNat : Int) != (f.toNat : Int)) = false := by rw [hx]; exact bne_self_eq_false _
      refine wp_region_kept (by kernel_rfl) (by kernel_rfl) ?_
      repeat (go_big_quiet_step ((go_at_call 128; exact Calls.kept_of (HRT.out _))))
      refine wpQuiet_nil ?_
      rintro _ ⟨⟨w3, hc3⟩, rfl⟩
      try dsimp only
      try dsimp only at hc3
      have hres : res = .ok ⟨f, p, a, e, u⟩ := by rw [HS.out]; simp [hx]
      subst hres
      have z := hc3.heap HZ2.out (fun x => x)
      have z0 := free_blk z 0
      have z1 := free_blk z 1
      have z2 := free_blk z 2
      have z3 := free_blk z 3
      have z4 := free_blk z 4
      have y0 := cell_blk z 0
      have y1 := cell_blk z 1
      have y2 := cell_blk z 2
      have y3 := cell_blk z 3
      have y4 := cell_blk z 4
      simp only [List.getElem?_toArray, List.getElem?_cons_succ, List.getElem?_cons_zero] at y0 y1 y2 y3 y4
      have HZ3 := Lib.hid z
      clear z
      have t0 := hc3.cell d0 (fun x => x)
      have t1 := hc3.cell d1 (fun x => x)
      have t2 := hc3.cell d2 (fun x => x)
      have t3 := hc3.cell d3 (fun x => x)
      have t4 := hc3.cell d4 (fun x => x)
      go_wp2_with fail
      refine bodyPost_ret (results_cell_tmp_row rfl _ _ w.heap.size 110 #[.int .u8 (f.toNat : Int), .int .u8 (p.toNat : Int), .int .u8 (a.toNat : Int), .int .u8 (e.toNat : Int), .int .u8 (u.toNat : Int)] (0, 0) _ rfl (store_five HZ3.out _ _ _ _ _) Tryz.underlying110 rfl (by kernel_rfl)) rfl ⟨rfl, ?_⟩
      exact chg_five (HC2.out.trans hc3) (Nat.le_refl _) _ _ _ _ _
    · have hx1 : ((x.toNat : Int) != (f.toNat : Int)) = true := by
        rw [bne_iff_ne]
        intro h0
        exact hx (UInt8.toNat_inj.1 (by omega))
      by_cases hy : x = 13
      · have hy1 : ((x.toNat : Int) != 13) = false := by rw [hy]; rfl
        have HY := Lib.hid hy
        clear hy
        refine wp_region_kept (by kernel_rfl) (by kernel_rfl) ?_
        repeat (go_big_quiet_step ((go_at_call 128; exact Calls.kept_of (HRT.out _))))
        refine wpQuiet_nil ?_
        rintro _ ⟨⟨w3, hc3⟩, rfl⟩
        try dsimp only
        try dsimp only at hc3
        have hres : res = .ok ⟨f, p, a, e, u⟩ := by rw [HS.out]; simp [HY.out]
        subst hres
        have z := hc3.heap HZ2.out (fun x => x)
        have z0 := free_blk z 0
        have z1 := free_blk z 1
        have z2 := free_blk z 2
        have z3 := free_blk z 3
        have z4 := free_blk z 4
        have y0 := cell_blk z 0
        have y1 := cell_blk z 1
        have y2 := cell_blk z 2
        have y3 := cell_blk z 3
        have y4 := cell_blk z 4
        simp only [List.getElem?_toArray, List.getElem?_cons_succ, List.getElem?_cons_zero] at y0 y1 y2 y3 y4
        have HZ3 := Lib.hid z
        clear z
        have t0 := hc3.cell d0 (fun x => x)
        have t1 := hc3.cell d1 (fun x => x)
        have t2 := hc3.cell d2 (fun x => x)
        have t3 := hc3.cell d3 (fun x => x)
        have t4 := hc3.cell d4 (fun x => x)
        go_wp2_with fail
        refine bodyPost_ret (results_cell_tmp_row rfl _ _ w.heap.size 110 #[.int .u8 (f.toNat : Int), .int .u8 (p.toNat : Int), .int .u8 (a.toNat : Int), .int .u8 (e.toNat : Int), .int .u8 (u.toNat : Int)] (0, 0) _ rfl (store_five HZ3.out _ _ _ _ _) Tryz.underlying110 rfl (by kernel_rfl)) rfl ⟨rfl, ?_⟩
        exact chg_five (HC2.out.trans hc3) (Nat.le_refl _) _ _ _ _ _
      · have hy1 : ((x.toNat : Int) != 13) = true := by
          rw [bne_iff_ne]
          intro h0
          exact hy (UInt8.toNat_inj.1 (by show x.toNat = 13; omega))
        refine wp_region_kept (by kernel_rfl) (by kernel_rfl) ?_
        repeat (go_big_quiet_step ((go_at_call 128; exact Calls.kept_of (HRT.out _))))
        refine wpQuiet_nil ?_
        rintro _ ⟨⟨w3, hc3⟩, rfl⟩
        try dsimp only
        try dsimp only at hc3
        have hres : res = .error 11 := by rw [HS.out]; simp [hx, hy]
        subst hres
        have z := hc3.heap HZ2.out (fun x => x)
        have z0 := free_blk z 0
        have z1 := free_blk z 1
        have z2 := free_blk z 2
        have z3 := free_blk z 3
        have z4 := free_blk z 4
        have y0 := cell_blk z 0
        have y1 := cell_blk z 1
        have y2 := cell_blk z 2
        have y3 := cell_blk z 3
        have y4 := cell_blk z 4
        simp only [List.getElem?_toArray, List.getElem?_cons_succ, List.getElem?_cons_zero] at y0 y1 y2 y3 y4
        have HZ3 := Lib.hid z
        clear z
        go_wp2_with fail
        refine bodyPost_ret (results_cell_tmp_row rfl _ _ w.heap.size 110 #[.int .u8 0, .int .u8 0, .int .u8 0, .int .u8 0, .int .u8 0] (0, 0) _ rfl (store_five HZ3.out _ _ _ _ _) Tryz.underlying110 rfl (by kernel_rfl)) rfl ⟨rfl, ?_⟩
        exact chg_five (HC2.out.trans hc3) (Nat.le_refl _) _ _ _ _ _

theorem delimRead_short (b : Bytes) (h : b.length < 9) : delimRead b = .error 7 := by
  unfold delimRead
  split
  · simp at h
    omega
  · rfl

theorem dread_calls (w : World) (v : Value) (b : Bytes) (h : Bs w v b) : Calls Tryz.prog 90 #[v] w fun e w' => e = endDelims (delimRead b) ∧ Chg No w w' := by
  by_cases hl : b.length < 9
  · rw [delimRead_short b hl]
    exact dread_short w v b h hl
  · obtain ⟨m, s, hh, f, p, a, e, u, x, r, rfl⟩ : ∃ m s hh f p a e u x r, b = m :: s :: hh :: f :: p :: a :: e :: u :: x :: r := by
      clear h
      rcases b with _ | ⟨m, _ | ⟨s, _ | ⟨hh, _ | ⟨f, _ | ⟨p, _ | ⟨a, _ | ⟨e, _ | ⟨u, _ | ⟨x, r⟩⟩⟩⟩⟩⟩⟩⟩⟩
      all_goals first | exact ⟨_, _, _, _, _, _, _, _, _, _, rfl⟩ | (exfalso; simp at hl)
    by_cases hm : m = 77 ∧ s = 83 ∧ hh = 72
    · obtain ⟨rfl, rfl, rfl⟩ := hm
      exact dread_signs w v f p a e u x r h
    · have hp : Lib.hasPrefix ((m :: s :: hh :: f :: p :: a :: e :: u :: x :: r).take 9) [77, 83, 72] = false := by
        rw [Bool.eq_false_iff]
        intro h0
        apply hm
        simp [Lib.hasPrefix] at h0
        exact ⟨h0.1.symm, h0.2.1.symm, h0.2.2.symm⟩
      have hr : delimRead (m :: s :: hh :: f :: p :: a :: e :: u :: x :: r) = .error 11 := by
        unfold delimRead
        simp only []
        rw [if_neg hm]
      rw [hr]
      exact dread_head w v _ h (by simp) hp
end Go.Proofs.YtgpmnicmgehmbaaGreatDoor
