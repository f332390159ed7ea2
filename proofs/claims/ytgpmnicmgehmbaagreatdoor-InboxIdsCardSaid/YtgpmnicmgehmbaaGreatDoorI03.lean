/- The law: InboxIds.
   Arguments of a call, opened: bytes, numbers.
   Arguments of a call, opened: more kinds.
   Arguments of a call, opened: numbers of 16 bits.
   The law: InboxNone.
   What a row's list of variables gives: Glob.
   A world for InboxNone's witness.
   InboxIds: right messages of any ids, with any junk between, are all kept and answered AA, in their order: the row and its tied card. -/
import Derived.Test.YtgpmnicmgehmbaaGreatDoorI02
import Derived.Deep.RegionHeldLaw
import Derived.Test.YtgpmnicmgehmbaaGreatDoorB12
import Derived.WalkKit
import Derived.ProofKit
import Derived.OpenShut
import Derived.Test.YtgpmnicmgehmbaaGreatDoorCards
import Derived.Test.YtgpmnicmgehmbaaGreatDoorTie
import Derived.Deep.DeepHandedRow
import Derived.Lib.LaidTab
import Derived.LaidSub
import Derived.SevenTiedAt

namespace Lamp
open Go.Proofs.YtgpmnicmgehmbaaGreatDoor (rightText fresh)
/-- A message's id. -/
def idText (n i : Nat) : Bytes := numText n ++ [65] ++ numText i
theorem idText_bare (n i : Nat) : bare (idText n i) := by
  have hd : ∀ c : UInt8, 48 ≤ c ∧ c ≤ 57 → c ≠ 13 ∧ c ≠ 11 ∧ c ≠ 28 ∧ c ≠ 124 := by
    rintro c ⟨h1, h2⟩
    refine ⟨?_, ?_, ?_, ?_⟩ <;> (rintro rfl; revert h1 h2; decide)
  intro c hc
  unfold idText at hc
  simp only [List.mem_append, List.mem_singleton] at hc
  rcases hc with (hc | rfl) | hc
  · exact hd c (numText_digit n c hc)
  · decide
  · exact hd c (numText_digit i c hc)
theorem idText_ne (n i : Nat) : idText n i ≠ [] := by simp [idText]
theorem idText_len (n i : Nat) (h1 : n < 1000000000) (h2 : i < 1000000000) : (idText n i).length ≤ 20 := by
  have a := numText_len n 8 (by omega)
  have b := numText_len i 8 (by omega)
  simp [idText]
  omega
/-- The ids of the first ones. -/
def idsOf (zs : List Int) (k : Nat) : List Bytes := (List.range k).map fun j => idText (zs.getD j 0).toNat j
theorem idsOf_succ (zs : List Int) (k : Nat) : idsOf zs (k + 1) = idsOf zs k ++ [idText (zs.getD k 0).toNat k] := by simp [idsOf, List.range_succ]
theorem idsOf_len (zs : List Int) (k : Nat) : (idsOf zs k).length = k := by simp [idsOf]
end Lamp
namespace Go.Proofs.YtgpmnicmgehmbaaGreatDoor
open Go.RowKit Lamp Go.Conc
set_option maxRecDepth 100000
set_option maxHeartbeats 1000000

/-- An inbox that gets right messages; a slice beside it. -/
def IdsIn (w W : World) (px pl pd : Nat) (l : List Bytes) (n : Nat) (fv : Value) (m : Bytes) : Prop :=
  ∃ s G, InAt W px pl pd s G ∧ (∀ k ∈ G, w.heap.size ≤ k) ∧ Chg No w W ∧ IdsAt s l ∧ s.Good n ∧ Bs W fv m ∧ ∀ k, fv.ownBlock = some k → k < W.heap.size ∧ k ∉ G

section
variable {w W : World} {px pl pd n : Nat} {l : List Bytes} {fv : Value} {m : Bytes}
theorem IdsIn.chg (h : IdsIn w W px pl pd l n fv m) : Chg No w W := by obtain ⟨_, _, _, _, hc, _⟩ := h; exact hc
theorem IdsIn.old {W' : World} (h : IdsIn w W px pl pd l n fv m) (hc : Chg No W W') : IdsIn w W' px pl pd l n fv m := by
  obtain ⟨s, G, h1, h2, h3, h4, h5, h6, h7⟩ := h
  exact ⟨s, G, h1.kept hc (fun _ _ x => x), h2, h3.trans hc, h4, h5, h6.chg hc (fun _ _ x => x), fun k hk => ⟨Nat.lt_of_lt_of_le (h7 k hk).1 hc.size, (h7 k hk).2⟩⟩
theorem IdsIn.mono {n' : Nat} (h : IdsIn w W px pl pd l n fv m) (hn : n ≤ n') : IdsIn w W px pl pd l n' fv m := by
  obtain ⟨s, G, h1, h2, h3, h4, h5, h6, h7⟩ := h
  exact ⟨s, G, h1, h2, h3, h4, h5.mono hn, h6, h7⟩
/-- Another slice beside it, new. -/
theorem IdsIn.beside {W' : World} {fv' : Value} {m' : Bytes} (h : IdsIn w W px pl pd l n fv m) (hc : Chg No W W') (hb : Bs W' fv' m') (hn : ∀ k, fv'.ownBlock = some k → W.heap.size ≤ k ∧ k < W'.heap.size) : IdsIn w W' px pl pd l n fv' m' := by
  obtain ⟨s, G, h1, h2, h3, h4, h5, h6, h7⟩ := h
  exact ⟨s, G, h1.kept hc (fun _ _ x => x), h2, h3.trans hc, h4, h5, hb, fun k hk => ⟨(hn k hk).2, fun hG => by have := h1.lt k hG; have := (hn k hk).1; omega⟩⟩
theorem IdsIn.junk1 (h : IdsIn w W px pl pd l n fv m) (hg : Glob w) (h6 : 6 ≤ w.heap.size) (c : UInt8) (hc : c ≠ 11) (hn : n ≤ 100000) :
    Calls Tryz.prog 10 #[.pointer (some ⟨px, 0, none⟩), .slice (some ⟨W.heap.size, 0, none⟩) 1 1] (W.alloc (.cells #[.int .u8 c.toNat] 5)) fun e w' => e = .returned (.int .i64 0) ∧ IdsIn w w' px pl pd l (n + 1) fv m := by
  obtain ⟨s, G, h1, h2, h3, h4, h5, hb, hfv⟩ := h
  have hal : Chg No W (W.alloc (.cells #[.int .u8 c.toNat] 5)) := (Chg.refl No W).alloc _
  refine (feedBox_calls _ [c] (h1.kept hal (fun _ _ x => x)) (hg.no (h3.trans hal)) (fun k hk => Nat.le_trans h6 (h2 k hk)) (cells_bs (l := [c]) (heap_alloc_new W _) rfl (show 1 ≤ _ by decide)) (fun k hk hG => by simp [Value.ownBlock] at hk; have := h1.lt k hG; omega) h5.fine (by simp; omega) h5.ok (by simp; omega)).mono ?_
  rintro e w' ⟨rfl, G', hin, hch, hsub⟩
  rw [(Sys.feed_calm h5.calm [c]).2]
  have hz := h3.size
  have hz2 := hal.size
  refine ⟨rfl, _, G', hin, fun k hk => ?_, (h3.trans hal).then hch (fun i hi => .inr (h2 i hi)), h4.junk c hc, h5.feed [c], (hb.chg hal (fun _ _ x => x)).chg hch (fun k hk hG => (hfv k hk).2 hG), fun k hk => ⟨by have := (hfv k hk).1; have := hch.size; omega, fun hG => ?_⟩⟩
  · rcases hsub k hk with e | e
    · exact h2 k e
    · omega
  · rcases hsub k hG with e | e
    · exact (hfv k hk).2 e
    · have := (hfv k hk).1; omega
theorem IdsIn.right1 {t : Bytes} (h : IdsIn w W px pl pd l n fv (frameWrap (rightText t))) (hg : Glob w) (h6 : 6 ≤ w.heap.size) (hb0 : bare t) (h0 : t ≠ []) (hl : t.length ≤ 20) (hll : l.length ≤ 100) (hn : n ≤ 100000) :
    Calls Tryz.prog 10 #[.pointer (some ⟨px, 0, none⟩), fv] W fun e w' => e = .returned (.int .i64 0) ∧ IdsIn w w' px pl pd (l ++ [t]) (n + 49) (.slice none 0 0) [] := by
  obtain ⟨s, G, h1, h2, h3, h4, h5, hb, hfv⟩ := h
  have hlen : (frameWrap (rightText t)).length ≤ 49 := by rw [wrap_len, rightText_len]; omega
  refine (feedBox_calls _ _ h1 (hg.no h3) (fun k hk => Nat.le_trans h6 (h2 k hk)) hb (fun k hk hG => (hfv k hk).2 hG) h5.fine (by omega) h5.ok (by omega)).mono ?_
  rintro e w' ⟨rfl, G', hin, hch, hsub⟩
  rw [(Sys.feed_calm h5.calm _).2]
  have hz := h3.size
  refine ⟨rfl, _, G', hin, fun k hk => ?_, h3.then hch (fun i hi => .inr (h2 i hi)), h4.right hb0 h0 hl (by omega), (h5.feed _).mono (by omega), Bs.nil _, fun k hk => by simp [Value.ownBlock] at hk⟩
  rcases hsub k hk with e | e
  · exact h2 k e
  · omega
end

theorem ackText_len (s : Bytes) : (ackText s).length ≤ 2 * s.length + 60 := by
  simp [ackText, line, lineA, tailB, ackT]
  omega
/-- What the second loop reads. -/
structure IdsOut (w W : World) (pl pd n : Nat) (zs : List Int) (q : Option Addr) (d : Disk) (g : Log) (F : List Nat) : Prop where
  chg : Chg No w W
  log : LogAt W pl pd d g F
  recs : g.l = (idsOf zs n).map rightText
  each : ∀ k, k < n → ∃ gv qu cu, q = some ⟨gv, 0, none⟩ ∧ W.cell? ⟨gv, k, none⟩ = some (.slice qu (frameWrap (ackText (idText (zs.getD k 0).toNat k))).length cu) ∧ Bs W (.slice qu (frameWrap (ackText (idText (zs.getD k 0).toNat k))).length cu) (frameWrap (ackText (idText (zs.getD k 0).toNat k)))
theorem ids_take {w W : World} {px pl pd n m : Nat} {zs : List Int} (h : IdsIn w W px pl pd (idsOf zs n) m (.slice none 0 0) []) (hm : m ≤ 100000) :
    Calls Tryz.prog 11 #[.pointer (some ⟨px, 0, none⟩)] W fun e w' => ∃ q c d g F, e = .returned (.slice q n c) ∧ IdsOut w w' pl pd n zs q d g F ∧
      (Calls Tryz.prog 16 #[.pointer (some ⟨pl, 0, none⟩)] w' fun e w2 => e = .returned (.int .i64 n) ∧ w' = w2) ∧
      (Calls Tryz.prog 20 #[.pointer (some ⟨px, 0, none⟩)] w' fun e w2 => e = .returned (.int .i64 n) ∧ w' = w2) := by
  obtain ⟨s, G, h1, h2, h3, h4, h5, _, _⟩ := h
  refine (takeBox_calls h1 (by have := h5.fine.seen1; omega)).mono ?_
  rintro e w' ⟨v, rws, G', rfl, ht⟩
  obtain ⟨q, c, hv⟩ := ht.own.sliceOf
  have htold := ht.told
  rw [h4.out] at htold
  have hlen : rws.length = n := by
    have := congrArg List.length htold
    simp [idsOf_len] at this
    omega
  obtain ⟨F, hF⟩ := ht.box.logAt
  have hLen := logLen_calls hF
  rw [show ({ s with box := { s.box with out := [] } } : Lamp.Sys).log.l.length = n from by show s.log.l.length = n; rw [h4.recs, List.length_map, idsOf_len]] at hLen
  have hKept := kept_calls ht.box
  rw [show ({ s with box := { s.box with out := [] } } : Lamp.Sys).box.kept = (n : Int) from by show s.box.kept = _; rw [h4.kept, idsOf_len]] at hKept
  rw [List.length_map, hlen] at hv
  subst hv
  refine ⟨q, c, _, _, F, rfl, ⟨h3.then ht.chg (fun i hi => .inr (h2 i hi)), hF, h4.recs, fun k hk => ?_⟩, hLen, hKept⟩
  obtain ⟨r, hr⟩ : ∃ r, rws[k]? = some r := ⟨_, List.getElem?_eq_getElem (by omega)⟩
  obtain ⟨gv, c2, hv2, hc2⟩ := ht.own.at k r.1 (by rw [List.getElem?_map, hr]; rfl)
  have hbs := (ht.each r (List.mem_of_getElem? hr)).1
  have hr2 : r.2 = frameWrap (ackText (idText (zs.getD k 0).toNat k)) := by
    have h6 := congrArg (·[k]?) htold
    simp only [List.getElem?_map, hr, Option.map_some] at h6
    unfold idsOf at h6
    rw [List.getElem?_map, List.getElem?_range hk] at h6
    simp only [Option.map_some, Option.some.injEq] at h6
    exact h6.symm
  rw [hr2] at hbs
  obtain ⟨qu, cu, hu, _⟩ := id hbs
  injection hv2 with e1 _ _
  rw [hu] at hbs hc2
  exact ⟨gv, qu, cu, e1, hc2, hbs⟩

theorem ids_short (w : World) (p q : Option Addr) (n cn m cm : Nat) (hg : Glob w) (h6 : 6 ≤ w.heap.size) (hl : 30 < n ∨ 100 < m) :
    Calls Tryz.prog 6 #[.slice p n cn, .slice q m cm] w fun e w' => e = .returned (.bool true) ∧ Chg No w w' := by
  have HA := Lib.hid (fun w1 (h : Chg No w w1) => alive_calls w1 (hg.no h) (Nat.le_trans h6 h.size))
  clear hg h6
  by_cases h1 : 30 < n
  · have hl2 : decide ((30 : Int) < n) = true := by rw [decide_eq_true_iff]; omega
    clear hl
    go_enter Tryz.func6, Tryz.ntmps6
    go_wp2_with fail
    refine (HA.out w (Chg.refl _ _)).mono ?_
    rintro e w1 ⟨rfl, hc1⟩
    have HC1 := Lib.hid hc1
    have HA1 := Lib.hid (HA.out w1 HC1.out)
    clear hc1 HA
    go_wp2_with fail
    refine HA1.out.mono ?_
    rintro e w2 ⟨rfl, hc2⟩
    have HC2 := Lib.hid (HC1.out.trans hc2)
    clear hc2 HC1 HA1
    go_wp2_with fail
    go_ret
    exact ⟨rfl, HC2.out⟩
  · have hl2 : decide ((30 : Int) < n) = false := by rw [decide_eq_false_iff_not]; omega
    have hl3 : decide ((100 : Int) < m) = true := by rw [decide_eq_true_iff]; omega
    clear hl
    go_enter Tryz.func6, Tryz.ntmps6
    go_wp2_with fail
    refine (HA.out w (Chg.refl _ _)).mono ?_
    rintro e w1 ⟨rfl, hc1⟩
    have HC1 := Lib.hid hc1
    have HA1 := Lib.hid (HA.out w1 HC1.out)
    clear hc1 HA
    go_wp2_with fail
    refine HA1.out.mono ?_
    rintro e w2 ⟨rfl, hc2⟩
    have HC2 := Lib.hid (HC1.out.trans hc2)
    clear hc2 HC1 HA1
    go_wp2_with fail
    go_ret
    exact ⟨rfl, HC2.out⟩

set_option maxHeartbeats 16000000 in
theorem ids_long (w : World) (p : Option Addr) (n cn : Nat) (vb : Value) (b : Bytes) (zs : List Int) (hg : Glob w) (h6 : 6 ≤ w.heap.size) (hb : Bs w vb b) (hl : b.length ≤ 100) (hn : n ≤ 30) (hzl : zs.length = n)
    (hcell : ∀ i, i < n → ∃ g o, p = some ⟨g, o, none⟩ ∧ w.cell? ⟨g, o + i, none⟩ = some (.int .u16 (zs.getD i 0))) (hz : ∀ z ∈ zs, 0 ≤ z ∧ z < 65536) :
    Calls Tryz.prog 6 #[.slice p n cn, vb] w fun e w' => e = .returned (.bool true) ∧ Chg No w w' := by
  have HB := Lib.hid hb
  obtain ⟨q, cap, rfl, _, _, _, hby⟩ := hb
  have hl2 : decide ((30 : Int) < n) = false := by rw [decide_eq_false_iff_not]; omega
  have hl3 : decide ((100 : Int) < b.length) = false := by rw [decide_eq_false_iff_not]; omega
  have HAL := Lib.hid (alive_calls w hg h6)
  have HG := Lib.hid hg
  have H6 := Lib.hid h6
  have HBY := Lib.hid hby
  have HL := Lib.hid hl
  have HN := Lib.hid hn
  have HZL := Lib.hid hzl
  have HCELL := Lib.hid hcell
  have HZ := Lib.hid hz
  clear hg h6 hl hby hcell hz hzl
  go_enter Tryz.func6, Tryz.ntmps6
  go_wp2_with fail
  refine HAL.out.mono ?_
  rintro e w1 ⟨rfl, hc1⟩
  have HC1 := Lib.hid hc1
  have HN1 := Lib.hid (beginBox_calls w1 100000 200 (by decide) (by decide) (by decide) (by decide))
  clear hc1 HAL
  go_wp2_with fail
  refine HN1.out.mono ?_
  rintro e w2 ⟨pd, pl, px, G, rfl, hin, hc2, hG⟩
  have HI : Hid (IdsIn w w2 px pl pd (idsOf zs 0) 0 (.slice none 0 0) []) := ⟨_, G, hin, fun k hk => Nat.le_trans HC1.out.size (hG k hk), HC1.out.trans hc2, ids_fresh, fresh_good _ _ (by decide) (by decide) (by decide) (by decide), Bs.nil _, fun k hk => by simp [Value.ownBlock] at hk⟩
  clear hin hc2 hG HN1 HC1
  go_wp2_with fail
  go_loopw [46] (fun i wr => ∃ k : Nat, k ≤ n ∧ i = .int .i64 k ∧ IdsIn w wr px pl pd (idsOf zs k) (150 * k) (.slice none 0 0) []) (fun i _ => n - (intOf i).toNat)
  case atStart => exact ⟨0, Nat.zero_le _, rfl, HI.out⟩
  case round =>
    obtain ⟨k, hk, rfl, hat⟩ := hrel
    clear HI
    by_cases hkl : k < n
    · obtain ⟨g, o, rfl, hcell⟩ := HCELL.out k hkl
      have c0 := hat.chg.cell hcell (fun x => x)
      have hzk := HZ.out (zs.getD k 0) (by rw [List.getD_eq_getElem?_getD, List.getElem?_eq_getElem (by rw [HZL.out]; exact hkl)]; simp)
      obtain ⟨z, hzz⟩ : ∃ z : Nat, zs.getD k 0 = z := ⟨(zs.getD k 0).toNat, by omega⟩
      rw [hzz] at c0 hzk
      have hzl2 : (z : Int) < 65536 := hzk.2
      have hids := idsOf_succ zs k
      rw [hzz, Int.toNat_natCast] at hids
      have HAT := Lib.hid hat
      have HKL := Lib.hid hkl
      have hk9 : (k : Int) ≤ 30 := by omega
      have HNUM := Lib.hid (fun w1 => num_calls w1 z (by omega))
      have HNUM2 := Lib.hid (fun w1 => num_calls w1 k (by omega))
      have ha := numText_len z 8 (by omega)
      have hb := numText_len k 8 (by omega)
      have HBA := Lib.hid (idText_bare z k)
      have HNE := Lib.hid (idText_ne z k)
      have HLE := Lib.hid (idText_len z k (by omega) (by omega))
      obtain ⟨S, hS⟩ : ∃ S, idText z k = S := ⟨_, rfl⟩
      have hS2 : numText z ++ [65] ++ numText k = S := hS
      have HRT := Lib.hid (fun w1 => rightText_calls w1 S (by rw [← hS]; have := HLE.out; omega))
      rw [hS] at hids HBA HNE HLE
      have HIDS := Lib.hid hids
      generalize numText z = tz at *
      generalize numText k = tk at *
      have ha9 : (tz.length : Int) ≤ 9 := by omega
      have hb9 : (tk.length : Int) ≤ 9 := by omega
      have hS3 : ofL tz ++ { data := #[65] } ++ ofL tk = ofL S := by rw [← hS2]; apply ByteArray.ext; simp [ofL]
      have HFR := Lib.hid (right_frame HBA.out).1
      clear hat hcell hzk hzz hids hS hS2
      go_wp2_with fail
      refine (HNUM.out _).mono ?_
      rintro e w3 ⟨rfl, hc3⟩
      have HC3 := Lib.hid hc3
      clear hc3 HNUM
      go_wp2_with fail
      refine (HNUM2.out _).mono ?_
      rintro e w4 ⟨rfl, hc4⟩
      have HC4 := Lib.hid (HC3.out.trans hc4)
      clear hc4 HNUM2 HC3
      go_wp2_with fail
      refine (HRT.out _).mono ?_
      rintro e w5 ⟨c5, rfl, hb5, hc5⟩
      have HC5 := Lib.hid (HC4.out.trans hc5)
      have HWR := Lib.hid (wrap_good w5 _ (rightText S) hb5 (by rw [rightText_len]; have := HLE.out; omega) (HG.out.no (HAT.out.chg.trans HC5.out)) HFR.out)
      clear hb5 hc5 HRT HC4
      go_wp2_with fail
      refine HWR.out.mono ?_
      rintro e w6 ⟨gb, cb, rfl, ho6, hgb, hc6⟩
      have hz5 := HC5.out.size
      have hat6 := HAT.out.beside (HC5.out.trans hc6) (own_bytes ho6 (by rw [wrap_len, rightText_len]; have := HLE.out; omega)) (fun k hk => ⟨by simp [Value.ownBlock] at hk; omega, ho6.lt hk⟩)
      have HAT6 := Lib.hid hat6
      have hlf : (frameWrap (rightText S)).length ≤ 49 := by rw [wrap_len, rightText_len]; have := HLE.out; omega
      have hlf9 : ((frameWrap (rightText S)).length : Int) ≤ 49 := by omega
      clear ho6 hgb hc6 hz5 hat6 HWR HC5 HAT c0
      generalize hFL : (frameWrap (rightText S)).length = FL at *
      go_wp2_with fail
      go_loopw [65] (fun i wi => ∃ j : Nat, j ≤ b.length ∧ i = .int .i64 j ∧ IdsIn w wi px pl pd (idsOf zs k) (150 * k + j) (.slice (some ⟨gb, 0, none⟩) FL cb) (frameWrap (rightText S))) (fun i _ => b.length - (intOf i).toNat)
      case atStart => exact ⟨0, Nat.zero_le _, rfl, HAT6.out⟩
      case round =>
        obtain ⟨j, hj, rfl, hat⟩ := hrel
        clear HAT6
        by_cases hjl : j < b.length
        · obtain ⟨bb, ob, rfl, hcl⟩ := Bs.at HBY.out j hjl
          have c0 := hat.chg.cell hcl (fun x => x)
          have HJL := Lib.hid hjl
          have hj9 : (j : Int) ≤ 100 := by have := HL.out; omega
          by_cases hc : b[j] = 11
          · have hc1 : ((b[j].toNat : Int) != 11) = false := by rw [hc]; rfl
            have HA2 := Lib.hid (hat.mono (show 150 * k + j ≤ 150 * k + (j + 1) by omega))
            clear hat hcl hc
            generalize b[j] = c at c0 hc1
            go_wp2_with fail
            exact ⟨⟨j + 1, HJL.out, by go_num, HA2.out⟩, by have := HJL.out; simp [intOf]; omega⟩
          · have hc1 : ((b[j].toNat : Int) != 11) = true := by
              have : b[j].toNat ≠ 11 := fun e => hc (by apply UInt8.toNat_inj.1; exact e)
              simp
              omega
            have HJ := Lib.hid (hat.junk1 HG.out H6.out b[j] hc (by have := HN.out; have := HKL.out; omega))
            clear hat hcl hc
            generalize b[j] = c at c0 hc1 HJ
            go_wp2_with fail
            refine HJ.out.mono ?_
            rintro e w8 ⟨rfl, hat8⟩
            have HA2 := Lib.hid hat8
            clear hat8 HJ c0
            go_wp2_with fail
            exact ⟨⟨j + 1, HJL.out, by go_num, HA2.out⟩, by have := HJL.out; simp [intOf]; omega⟩
        · obtain rfl : j = b.length := by omega
          have HR1 := Lib.hid (hat.right1 HG.out H6.out HBA.out HNE.out HLE.out (by rw [idsOf_len]; have := HN.out; have := HKL.out; omega) (by have := HN.out; have := HKL.out; have := HL.out; omega))
          clear hat
          go_wp2_with fail
          refine HR1.out.mono ?_
          rintro e w8 ⟨rfl, hat8⟩
          have hat9 := hat8.mono (show 150 * k + b.length + 49 ≤ 150 * (k + 1) by have := HL.out; omega)
          rw [← HIDS.out] at hat9
          have HA2 := Lib.hid hat9
          clear hat8 hat9 HR1
          go_wp2_with fail
          exact ⟨⟨k + 1, HKL.out, by go_num, HA2.out⟩, by have := HKL.out; simp [intOf]; omega⟩
    · obtain rfl : k = n := by omega
      have HTK := Lib.hid (ids_take hat (by have := HN.out; omega))
      clear hat
      go_wp2_with fail
      refine HTK.out.mono ?_
      rintro e w3 ⟨qo, co, d, gl, F, rfl, ho, hlen, hkp⟩
      have HO := Lib.hid ho
      have HLN := Lib.hid hlen
      have HKP := Lib.hid hkp
      clear ho hlen hkp HTK
      go_wp2_with fail
      refine HLN.out.mono ?_
      rintro e w4 ⟨rfl, rfl⟩
      go_wp2_with fail
      refine HKP.out.mono ?_
      rintro e w4 ⟨rfl, rfl⟩
      clear HLN HKP
      go_wp2_with fail
      go_loopw [103] (fun i wi => ∃ k' : Nat, k' ≤ k ∧ i = .int .i64 k' ∧ Chg No w3 wi) (fun i _ => k - (intOf i).toNat)
      case atStart => exact ⟨0, Nat.zero_le _, rfl, Chg.refl _ _⟩
      case round =>
        obtain ⟨j, hj, rfl, hcw⟩ := hrel
        by_cases hjl : j < k
        · obtain ⟨g, o, rfl, hcell⟩ := HCELL.out j hjl
          have hcw0 := HO.out.chg.trans hcw
          have c0 := hcw0.cell hcell (fun x => x)
          have hzk := HZ.out (zs.getD j 0) (by rw [List.getD_eq_getElem?_getD, List.getElem?_eq_getElem (by rw [HZL.out]; exact hjl)]; simp)
          obtain ⟨z, hzz⟩ : ∃ z : Nat, zs.getD j 0 = z := ⟨(zs.getD j 0).toNat, by omega⟩
          obtain ⟨gv, qu, cu, rfl, hco, hbo⟩ := HO.out.each j hjl
          have hrec : gl.l[j]? = some (rightText (idText (zs.getD j 0).toNat j)) := by
            rw [HO.out.recs]
            unfold idsOf
            rw [List.getElem?_map, List.getElem?_map, List.getElem?_range hjl]
            rfl
          rw [hzz, Int.toNat_natCast] at hco hbo hrec
          rw [hzz] at c0 hzk
          have d0 := hcw.cell hco (fun x => x)
          have hzl2 : (z : Int) < 65536 := hzk.2
          have hj9 : (j : Int) ≤ 30 := by omega
          have HJK := Lib.hid hjl
          have HNUM := Lib.hid (fun w1 => num_calls w1 z (by omega))
          have HNUM2 := Lib.hid (fun w1 => num_calls w1 j (by omega))
          have ha := numText_len z 8 (by omega)
          have hb := numText_len j 8 (by omega)
          have hba := idText_bare z j
          have hle := idText_len z j (by omega) (by omega)
          obtain ⟨S, hS⟩ : ∃ S, idText z j = S := ⟨_, rfl⟩
          have hS2 : numText z ++ [65] ++ numText j = S := hS
          rw [hS] at hco hbo hrec hba hle d0
          have hal := ackText_len S
          have HUN := Lib.hid (unwrap_calls wr _ (ackText S) (hbo.chg hcw (fun _ _ x => x)) (by omega) (HG.out.no hcw0) (ack_frame hba))
          have HAR := Lib.hid (fun w1 v1 (h1 : Bs w1 v1 (ackText S)) (h2 : Chg No w w1) => (aread_calls (ackText S) h1 (HG.out.no h2) (by omega)))
          rw [ack_read hba] at HAR
          unfold endAck ackV aa at HAR
          have HGT := Lib.hid (fun w1 (h1 : Chg No w3 w1) => get_calls (HO.out.log.kept h1 (fun _ _ x => x)) j (rightText S) hrec (by simp [rightText]))
          have HRT := Lib.hid (fun w1 => rightText_calls w1 S (by omega))
          have HCW0 := Lib.hid hcw0
          have HCW := Lib.hid hcw
          generalize hFL : (frameWrap (ackText S)).length = FL at *
          generalize numText z = tz at *
          generalize numText j = tk at *
          have ha9 : (tz.length : Int) ≤ 9 := by omega
          have hb9 : (tk.length : Int) ≤ 9 := by omega
          have hS3 : ofL tz ++ { data := #[65] } ++ ofL tk = ofL S := by rw [← hS2]; apply ByteArray.ext; simp [ofL]
          clear hcell hzk hzz hS hS2 hbo hrec hco hcw0 hcw hal hba hle
          go_wp2_with fail
          refine HUN.out.mono ?_
          rintro e w5 ⟨q5, c5, rfl, hb5, _, hc5⟩
          have HC5 := Lib.hid (HCW.out.trans hc5)
          have HC50 := Lib.hid (HCW0.out.trans hc5)
          have HA5 := Lib.hid (HAR.out w5 _ hb5 HC50.out)
          clear hb5 hc5 HUN HAR HCW HCW0 c0 d0
          go_wp2_with fail
          refine HA5.out.mono ?_
          rintro e w6 ⟨rfl, hc6⟩
          have HC6 := Lib.hid (HC5.out.trans hc6)
          clear hc6 HA5
          go_wp2_with fail
          obtain ⟨W7, hW7⟩ : ∃ W7, w6.alloc (.cells #[.string (ofL [65, 65]), .string (ofL S)] 55) = W7 := ⟨_, rfl⟩
          have hc7 : Chg No w6 W7 := by rw [← hW7]; exact (Chg.refl No w6).alloc _
          have hk7 : W7.heap[w6.heap.size]? = some (.cells #[.string (ofL [65, 65]), .string (ofL S)] 55 (0, 0)) := by rw [← hW7]; exact heap_alloc_new _ _
          rw [hW7]
          have HC7 := Lib.hid (HC6.out.trans hc7)
          have HK7 := Lib.hid hk7
          clear hc7 hk7 hW7
          refine (HGT.out _ HC7.out).mono ?_
          rintro e w8 ⟨v8, rfl, hb8, _, hbel8⟩
          have HC8 := Lib.hid (HC7.out.trans (Chg.of_below hbel8))
          have HK8 := Lib.hid ((Chg.of_below hbel8).heap HK7.out (fun x => x))
          obtain ⟨q8, c8, hv8, _⟩ := id hb8
          subst hv8
          have HB8 := Lib.hid hb8
          clear hb8 hbel8 HGT
          go_wp2_with fail
          refine (HNUM.out _).mono ?_
          rintro e w9 ⟨rfl, hc9⟩
          have HC9 := Lib.hid hc9
          clear hc9 HNUM
          go_wp2_with fail
          refine (HNUM2.out _).mono ?_
          rintro e w10 ⟨rfl, hc10⟩
          have HC10 := Lib.hid (HC8.out.trans (HC9.out.trans hc10))
          have HK10 := Lib.hid ((HC9.out.trans hc10).heap HK8.out (fun x => x))
          have HB10 := Lib.hid (HB8.out.chg (HC9.out.trans hc10) (fun _ _ x => x))
          clear hc10 HNUM2 HC9
          have k0 := cell_blk HK10.out 0
          have k1 := cell_blk HK10.out 1
          simp only [List.getElem?_toArray, List.getElem?_cons_succ, List.getElem?_cons_zero] at k0 k1
          have tb := fun m => run_text (HB10.out.chg ((Chg.refl No w10).drewN m) (fun _ _ x => x))
          go_wp2_with fail
          have HT10 := Lib.hid (fun w' (h : Chg No w10 w') => run_text (HB10.out.chg h (fun _ _ x => x)))
          go_region_held_law (fun w' => w'.cell? ⟨w6.heap.size, 0, none⟩ = some (.string (ofL [65, 65])) ∧ w'.cell? ⟨w6.heap.size, 1, none⟩ = some (.string (ofL S)) ∧ (convert 22 9 (.slice q8 (rightText S).length c8)).run Tryz.prog w' = .ok (.string (ofL (rightText S))) w')
            (first | exact ⟨k0, k1, tb 1⟩ | exact ⟨j0, j1, tb11⟩ | go_keep)
            (first
              | (go_at_call 25; refine (HRT.out _).mono ?_; rintro e w11 ⟨c11, rfl, hb11, hc11⟩; have t11 : (convert 22 9 (.slice (some ⟨w10.heap.size, 0, none⟩) (rightText S).length c11)).run Tryz.prog w11 = .ok (.string (ofL (rightText S))) w11 := run_text hb11; have hcx : Chg No w10 w11 := (Chg.drewN (Chg.refl No w10) 1).trans hc11; have tb11 := HT10.out w11 hcx; have j0 := hcx.cell k0 (fun x => x); have j1 := hcx.cell k1 (fun x => x)))
          have HC11 : Hid (Chg No w3 w11) := HC10.out.trans hcx
          clear hb11 hc11 t11 tb11 tb k0 k1 j0 j1 hcx
          go_wp2_with fail
          exact ⟨⟨j + 1, HJK.out, by go_num, HC11.out⟩, by have := HJK.out; simp [intOf]; omega⟩
        · obtain rfl : j = k := by omega
          have HF := Lib.hid (HO.out.chg.trans hcw)
          clear hcw
          go_wp2_with fail
          go_ret
          exact ⟨rfl, HF.out⟩
end Go.Proofs.YtgpmnicmgehmbaaGreatDoor


namespace Go.Proofs.YtgpmnicmgehmbaaGreatDoor
open Go.ChangeShapes Go.WideShapes Go.ChangeAt Go.RowKit Lamp
set_option maxRecDepth 100000

theorem cells_u8 : Tryz.prog.cellsOf 5 = 1 := by kernel_rfl
theorem range_u8 {n : Int} (h : (Lit.int .u8 n).wf = true) : 0 ≤ n ∧ n < 256 := by
  have h1 : (decide (IntKind.u8.min ≤ n) && decide (n ≤ IntKind.u8.max)) = true := h
  have h2 : IntKind.u8.min = 0 := by decide
  have h3 : IntKind.u8.max = 255 := by decide
  rw [h2, h3] at h1
  simp at h1
  omega
theorem nums_of (zs : List Int) (h : ∀ n ∈ zs, (Lit.int .u8 n).wf = true) : ∃ l : Bytes, nums l = zs := by
  refine ⟨zs.map fun n => UInt8.ofNat n.toNat, ?_⟩
  unfold nums
  rw [List.map_map]
  conv => rhs; rw [← List.map_id zs]
  refine List.map_congr_left fun n hn => ?_
  have h2 := range_u8 (h n hn)
  obtain ⟨m, rfl⟩ : ∃ m : Nat, n = m := ⟨n.toNat, by omega⟩
  simp
  omega
/-- Bytes, nil or not. -/
theorem open_bytes {H : Type} {enc : TypeId × Value → H} {W : World} {a0 : Option Addr} {len cap : Nat} {d0 : DataW H} {p : List MemPlace}
    (h0 : DataW.Trod enc Tryz.prog W 0 (fun _ => true) true 22 (.slice a0 len cap) d0 p) (hl : len ≤ 140737488355328) : ∃ l : Bytes, l.length = len ∧ Bs W (.slice a0 len cap) l := by
  obtain ⟨fuel, hf⟩ := h0
  rcases open_ints Tryz.underlying22 Tryz.underlying5 cells_u8 hf with ⟨hcs, hx⟩ | ⟨a, len', cap', zs, hcs, _, hle, hm, hz, hx, hcell, hwz⟩
  · simp [Value.cells] at hcs
    obtain ⟨rfl, rfl, rfl⟩ := hcs
    exact ⟨[], rfl, Bs.nil W⟩
  · simp [Value.cells] at hcs
    obtain ⟨rfl, rfl, rfl⟩ := hcs
    simp only [if_true] at hz
    obtain ⟨l, hl2⟩ := nums_of (zs.take len) (fun n hn => hwz n (List.mem_of_mem_take hn))
    have hlen : l.length = len := by
      have := congrArg List.length hl2
      rw [length_nums, List.length_take] at this
      omega
    refine ⟨l, hlen, some a, cap, by rw [hlen], by omega, by omega, (by intro h; cases h), ?_⟩
    rw [hl2, hlen]
    exact Lib.BytesIn.of_cells (fun i hi => by rw [hcell i (by omega)]; simp [List.getD, hi])
end Go.Proofs.YtgpmnicmgehmbaaGreatDoor


namespace Go.Proofs.YtgpmnicmgehmbaaGreatDoor
open Go.ChangeShapes Go.WideShapes Go.ChangeAt Go.RowKit Lamp
set_option maxRecDepth 100000

/-- Where a slice's block is. -/
theorem open_lt {W : World} {r : Reach} {base : Nat} {t e : TypeId} {a0 : Option Addr} {len cap : Nat} (ht : Tryz.prog.underlying t = some (.slice e)) (h : Value.okWide Tryz.prog W r base t (.slice a0 len cap)) :
    ∀ k, (Value.slice a0 len cap).ownBlock = some k → k < W.heap.size := by
  intro k hk
  cases a0 with
  | none => simp [Value.ownBlock] at hk
  | some a =>
    simp only [Value.okWide, ht, Cell.okWide, Cell.ok] at h
    obtain ⟨_, _, _, _, row, cells, hs, _⟩ := h
    simp [Value.ownBlock] at hk
    subst hk
    unfold World.shape? at hs
    rcases Nat.lt_or_ge a.block W.heap.size with h1 | h1
    · exact h1
    · rw [Array.getElem?_eq_none h1] at hs
      simp at hs
/-- Numbers, nil or not. -/
theorem open_nums {H : Type} {enc : TypeId × Value → H} {W : World} {t e : TypeId} {k : IntKind} {a0 : Option Addr} {len cap : Nat} {d0 : DataW H} {p : List MemPlace} (ht : Tryz.prog.underlying t = some (.slice e)) (he : Tryz.prog.underlying e = some (.int k)) (hc : Tryz.prog.cellsOf e = 1)
    (h0 : DataW.Trod enc Tryz.prog W 0 (fun _ => true) true t (.slice a0 len cap) d0 p) : ∃ zs : List Int, zs.length = len ∧ (∀ i, i < len → ∃ g o, a0 = some ⟨g, o, none⟩ ∧ W.cell? ⟨g, o + i, none⟩ = some (.int k (zs.getD i 0))) ∧ ∀ n ∈ zs, (Lit.int k n).wf = true := by
  obtain ⟨fuel, hf⟩ := h0
  rcases open_ints ht he hc hf with ⟨hcs, hx⟩ | ⟨a, len', cap', zs, hcs, _, hle, hm, hz, hx, hcell, hwz⟩
  · simp [Value.cells] at hcs
    obtain ⟨rfl, rfl, rfl⟩ := hcs
    exact ⟨[], rfl, fun i hi => by omega, fun n hn => by simp at hn⟩
  · simp [Value.cells] at hcs
    obtain ⟨rfl, rfl, rfl⟩ := hcs
    simp only [if_true] at hz
    refine ⟨zs.take len, by simp; omega, fun i hi => ?_, fun n hn => hwz n (List.mem_of_mem_take hn)⟩
    obtain ⟨g, o, s⟩ := a
    have h1 := hcell i (by omega)
    obtain rfl : s = none := by simpa [Addr.add] using World.cell?_spot (hcell 0 (by omega))
    refine ⟨g, o, rfl, ?_⟩
    rw [← add_plain, h1]
    simp [List.getD, hi]
theorem cells_int : Tryz.prog.cellsOf 3 = 1 := by kernel_rfl
theorem types_two : Tryz.prog.cellTypes Tryz.prog.depth 36 = some [3, 3] := by kernel_rfl
/-- An array of two numbers. -/
theorem open_two {W : World} {r : Reach} {base : Nat} {v : Value} (h : Value.okWide Tryz.prog W r base 36 v) : ∃ n0 n1, v = .agg #[.int .i64 n0, .int .i64 n1] := by
  simp only [Value.okWide, Tryz.underlying36] at h
  obtain ⟨cs, rfl, hs, ts, hts, _, hc⟩ := h
  rw [types_two] at hts
  injection hts with hts
  subst hts
  have hs2 : cs.size = 2 := hs.trans (by kernel_rfl)
  have each : ∀ i (hi : i < cs.size), ∃ n, cs[i] = .int .i64 n := by
    intro i hi
    obtain ⟨u, hu, hok⟩ := hc i cs[i] (Array.getElem?_eq_getElem hi)
    have hu2 : u = 3 := by
      have : i = 0 ∨ i = 1 := by omega
      rcases this with rfl | rfl <;> simpa using hu.symm
    subst hu2
    simp only [Cell.okWide, Tryz.underlying3] at hok
    generalize cs[i] = x at hok
    cases x <;> simp_all [Cell.ok, Tryz.underlying3]
  obtain ⟨n0, h0⟩ := each 0 (by omega)
  obtain ⟨n1, h1⟩ := each 1 (by omega)
  refine ⟨n0, n1, ?_⟩
  congr 1
  apply Array.ext
  · simpa using hs2
  · intro i hi hi2
    have : i = 0 ∨ i = 1 := by omega
    rcases this with rfl | rfl
    · simpa using h0
    · simpa using h1
end Go.Proofs.YtgpmnicmgehmbaaGreatDoor


namespace Go.Proofs.YtgpmnicmgehmbaaGreatDoor
open Go.ChangeShapes Go.WideShapes Go.ChangeAt Go.RowKit Lamp
set_option maxRecDepth 100000
theorem cells_u16 : Tryz.prog.cellsOf 49 = 1 := by kernel_rfl
theorem range_u16 {n : Int} (h : (Lit.int .u16 n).wf = true) : 0 ≤ n ∧ n < 65536 := by
  have h1 : (decide (IntKind.u16.min ≤ n) && decide (n ≤ IntKind.u16.max)) = true := h
  have h2 : IntKind.u16.min = 0 := by decide
  have h3 : IntKind.u16.max = 65535 := by decide
  rw [h2, h3] at h1
  simp at h1
  omega
end Go.Proofs.YtgpmnicmgehmbaaGreatDoor


namespace Go.Proofs.YtgpmnicmgehmbaaGreatDoor
open Go.RowKit Lamp Go.Conc
set_option maxRecDepth 100000
set_option maxHeartbeats 1000000

theorem none_low (w : World) (n : Int) (q : Option Addr) (l c : Nat) (hg : Glob w) (h6 : 6 ≤ w.heap.size) (h1 : n < 1) :
    Calls Tryz.prog 5 #[.int .i64 n, .slice q l c] w fun e w' => e = .returned (.bool true) ∧ Chg No w w' := by
  have HRS := Lib.hid (fun w1 => nilReset_calls w1)
  have HFD := Lib.hid (nilFeed_calls w q l c)
  have HTK := Lib.hid (fun w1 => nilTake_calls w1)
  have HSN := Lib.hid (fun w1 => nilSeen_calls w1)
  have HKP := Lib.hid (fun w1 => nilKept_calls w1)
  have HHD := Lib.hid (fun w1 => nilHeld_calls w1)
  have HNN := Lib.hid (fun w1 => nilNew_calls w1 n)
  have HG := Lib.hid hg
  have H6 := Lib.hid h6
  clear hg h6
  go_enter Tryz.func5, Tryz.ntmps5
  go_wp2_with fail
  refine (HRS.out _).mono ?_
  rintro e w1 ⟨rfl, rfl⟩
  go_wp2_with fail
  refine HFD.out.mono ?_
  rintro e w1 ⟨rfl, hc1⟩
  have HC1 := Lib.hid hc1
  clear hc1 HFD HRS
  go_wp2_with fail
  refine (HTK.out _).mono ?_
  rintro e w2 ⟨rfl, rfl⟩
  go_wp2_with fail
  refine (HSN.out _).mono ?_
  rintro e w2 ⟨rfl, rfl⟩
  go_wp2_with fail
  refine (HKP.out _).mono ?_
  rintro e w2 ⟨rfl, rfl⟩
  go_wp2_with fail
  refine (HHD.out _).mono ?_
  rintro e w2 ⟨rfl, rfl⟩
  go_wp2_with fail
  refine (HNN.out _).mono ?_
  rintro e w2 ⟨rfl, rfl⟩
  have HDN := Lib.hid (newDisk_ok (w := w1) 100 (by decide) (by decide))
  clear HTK HSN HKP HHD HNN
  go_wp2_with fail
  refine HDN.out.mono ?_
  rintro e w3 ⟨rfl, hd1, hd2, hb3⟩
  have HC3 : Hid (Chg No w w3) := HC1.out.trans (Chg.of_below hb3)
  have hdk := diskAt_new hd1 hd2 (by omega)
  have HDK := Lib.hid hdk
  have HAL := Lib.hid (alive_calls w3 (HG.out.no HC3.out) (Nat.le_trans H6.out HC3.out.size))
  clear hd1 hd2 hb3 hdk HDN
  go_wp2_with fail
  refine HAL.out.mono ?_
  rintro e w4 ⟨rfl, hc4⟩
  have HC4 := Lib.hid (HC3.out.trans hc4)
  have HOP := Lib.hid (open_fresh (HDK.out.old hc4) logName rfl (by decide))
  clear hc4 HAL HDK
  go_wp2_with fail
  refine HOP.out.mono ?_
  rintro e w5 ⟨pl, F, rfl, hl, hb5, hF⟩
  have HC5 : Hid (Chg No w w5) := HC4.out.trans (Chg.of_below hb5)
  have HLG := Lib.hid hl
  clear hl hb5 hF HOP
  have HNB := Lib.hid (newBox_bad w5 pl n (.inl h1))
  go_wp2_with fail
  refine HNB.out.mono ?_
  rintro e w6 ⟨rfl, rfl⟩
  go_wp2_with fail
  go_ret
  exact ⟨rfl, HC5.out⟩

theorem none_high (w : World) (n : Int) (q : Option Addr) (l c : Nat) (hg : Glob w) (h6 : 6 ≤ w.heap.size) (h1 : 65536 < n) :
    Calls Tryz.prog 5 #[.int .i64 n, .slice q l c] w fun e w' => e = .returned (.bool true) ∧ Chg No w w' := by
  have HRS := Lib.hid (fun w1 => nilReset_calls w1)
  have HFD := Lib.hid (nilFeed_calls w q l c)
  have HTK := Lib.hid (fun w1 => nilTake_calls w1)
  have HSN := Lib.hid (fun w1 => nilSeen_calls w1)
  have HKP := Lib.hid (fun w1 => nilKept_calls w1)
  have HHD := Lib.hid (fun w1 => nilHeld_calls w1)
  have HNN := Lib.hid (fun w1 => nilNew_calls w1 n)
  have HG := Lib.hid hg
  have H6 := Lib.hid h6
  clear hg h6
  go_enter Tryz.func5, Tryz.ntmps5
  go_wp2_with fail
  refine (HRS.out _).mono ?_
  rintro e w1 ⟨rfl, rfl⟩
  go_wp2_with fail
  refine HFD.out.mono ?_
  rintro e w1 ⟨rfl, hc1⟩
  have HC1 := Lib.hid hc1
  clear hc1 HFD HRS
  go_wp2_with fail
  refine (HTK.out _).mono ?_
  rintro e w2 ⟨rfl, rfl⟩
  go_wp2_with fail
  refine (HSN.out _).mono ?_
  rintro e w2 ⟨rfl, rfl⟩
  go_wp2_with fail
  refine (HKP.out _).mono ?_
  rintro e w2 ⟨rfl, rfl⟩
  go_wp2_with fail
  refine (HHD.out _).mono ?_
  rintro e w2 ⟨rfl, rfl⟩
  go_wp2_with fail
  refine (HNN.out _).mono ?_
  rintro e w2 ⟨rfl, rfl⟩
  have HDN := Lib.hid (newDisk_ok (w := w1) 100 (by decide) (by decide))
  clear HTK HSN HKP HHD HNN
  go_wp2_with fail
  refine HDN.out.mono ?_
  rintro e w3 ⟨rfl, hd1, hd2, hb3⟩
  have HC3 : Hid (Chg No w w3) := HC1.out.trans (Chg.of_below hb3)
  have hdk := diskAt_new hd1 hd2 (by omega)
  have HDK := Lib.hid hdk
  have HAL := Lib.hid (alive_calls w3 (HG.out.no HC3.out) (Nat.le_trans H6.out HC3.out.size))
  clear hd1 hd2 hb3 hdk HDN
  go_wp2_with fail
  refine HAL.out.mono ?_
  rintro e w4 ⟨rfl, hc4⟩
  have HC4 := Lib.hid (HC3.out.trans hc4)
  have HOP := Lib.hid (open_fresh (HDK.out.old hc4) logName rfl (by decide))
  clear hc4 HAL HDK
  go_wp2_with fail
  refine HOP.out.mono ?_
  rintro e w5 ⟨pl, F, rfl, hl, hb5, hF⟩
  have HC5 : Hid (Chg No w w5) := HC4.out.trans (Chg.of_below hb5)
  have HLG := Lib.hid hl
  clear hl hb5 hF HOP
  have HNB := Lib.hid (newBox_bad w5 pl n (.inr h1))
  go_wp2_with fail
  refine HNB.out.mono ?_
  rintro e w6 ⟨rfl, rfl⟩
  go_wp2_with fail
  go_ret
  exact ⟨rfl, HC5.out⟩

theorem none_mid (w : World) (n : Int) (q : Option Addr) (l c : Nat) (hg : Glob w) (h6 : 6 ≤ w.heap.size) (h1 : 1 ≤ n) (h2 : n ≤ 65536) :
    Calls Tryz.prog 5 #[.int .i64 n, .slice q l c] w fun e w' => e = .returned (.bool true) ∧ Chg No w w' := by
  have HRS := Lib.hid (fun w1 => nilReset_calls w1)
  have HFD := Lib.hid (nilFeed_calls w q l c)
  have HTK := Lib.hid (fun w1 => nilTake_calls w1)
  have HSN := Lib.hid (fun w1 => nilSeen_calls w1)
  have HKP := Lib.hid (fun w1 => nilKept_calls w1)
  have HHD := Lib.hid (fun w1 => nilHeld_calls w1)
  have HNN := Lib.hid (fun w1 => nilNew_calls w1 n)
  have HG := Lib.hid hg
  have H6 := Lib.hid h6
  clear hg h6
  go_enter Tryz.func5, Tryz.ntmps5
  go_wp2_with fail
  refine (HRS.out _).mono ?_
  rintro e w1 ⟨rfl, rfl⟩
  go_wp2_with fail
  refine HFD.out.mono ?_
  rintro e w1 ⟨rfl, hc1⟩
  have HC1 := Lib.hid hc1
  clear hc1 HFD HRS
  go_wp2_with fail
  refine (HTK.out _).mono ?_
  rintro e w2 ⟨rfl, rfl⟩
  go_wp2_with fail
  refine (HSN.out _).mono ?_
  rintro e w2 ⟨rfl, rfl⟩
  go_wp2_with fail
  refine (HKP.out _).mono ?_
  rintro e w2 ⟨rfl, rfl⟩
  go_wp2_with fail
  refine (HHD.out _).mono ?_
  rintro e w2 ⟨rfl, rfl⟩
  go_wp2_with fail
  refine (HNN.out _).mono ?_
  rintro e w2 ⟨rfl, rfl⟩
  have HDN := Lib.hid (newDisk_ok (w := w1) 100 (by decide) (by decide))
  clear HTK HSN HKP HHD HNN
  go_wp2_with fail
  refine HDN.out.mono ?_
  rintro e w3 ⟨rfl, hd1, hd2, hb3⟩
  have HC3 : Hid (Chg No w w3) := HC1.out.trans (Chg.of_below hb3)
  have hdk := diskAt_new hd1 hd2 (by omega)
  have HDK := Lib.hid hdk
  have HAL := Lib.hid (alive_calls w3 (HG.out.no HC3.out) (Nat.le_trans H6.out HC3.out.size))
  clear hd1 hd2 hb3 hdk HDN
  go_wp2_with fail
  refine HAL.out.mono ?_
  rintro e w4 ⟨rfl, hc4⟩
  have HC4 := Lib.hid (HC3.out.trans hc4)
  have HOP := Lib.hid (open_fresh (HDK.out.old hc4) logName rfl (by decide))
  clear hc4 HAL HDK
  go_wp2_with fail
  refine HOP.out.mono ?_
  rintro e w5 ⟨pl, F, rfl, hl, hb5, hF⟩
  have HC5 : Hid (Chg No w w5) := HC4.out.trans (Chg.of_below hb5)
  have HLG := Lib.hid hl
  clear hl hb5 hF HOP
  have HNB := Lib.hid (newBox_ok n h1 h2 HLG.out)
  go_wp2_with fail
  refine HNB.out.mono ?_
  rintro e w6 ⟨px, G, rfl, hin, hc6, hG⟩
  have HSE := Lib.hid (seen_calls hin)
  have HC6 := Lib.hid (HC5.out.trans hc6)
  clear hin hc6 hG HNB
  go_wp2_with fail
  refine HSE.out.mono ?_
  rintro e w7 ⟨rfl, rfl⟩
  go_wp2_with fail
  go_ret
  exact ⟨rfl, HC6.out⟩

theorem none_calls (w : World) (n : Int) (q : Option Addr) (l c : Nat) (hg : Glob w) (h6 : 6 ≤ w.heap.size) :
    Calls Tryz.prog 5 #[.int .i64 n, .slice q l c] w fun e w' => e = .returned (.bool true) ∧ Chg No w w' := by
  by_cases h1 : n < 1
  · exact none_low w n q l c hg h6 h1
  · by_cases h2 : 65536 < n
    · exact none_high w n q l c hg h6 h2
    · exact none_mid w n q l c hg h6 (by omega) (by omega)
end Go.Proofs.YtgpmnicmgehmbaaGreatDoor


namespace Go.Proofs.YtgpmnicmgehmbaaGreatDoor
open Go.RowKit Lamp Go.ChangeShapes Go.WideShapes Go.ChangeAt

theorem cells_of_texts {H : Type} {enc : TypeId × Value → H} {P : Program} {w : World} {base : Nat} {sp : Nat → Bool} {held : Bool} {fuel : Nat} {t e : TypeId} {n : Nat} {cs : List Value} {zs : List Bytes} {p : List MemPlace}
    (ht : P.underlying t = some (.array n e)) (he : P.underlying e = some .string) (hce : P.cellsOf e = 1) (hct : P.cellsOf t = n)
    (h : DataW.trod enc P w base sp held fuel t cs = some (.agg (zs.map fun s => .lit (.string s)), p)) : cs = zs.map fun s => Value.string (ofL s) := by
  cases fuel with
  | zero => simp [DataW.trod] at h
  | succ fuel =>
    simp only [DataW.trod, ht, hce, hct, Nat.mul_one] at h
    split at h
    · rename_i hl
      obtain ⟨xs, hm, hx⟩ := Option.map_eq_some_iff.1 h
      have hxs : xs.map (·.1) = zs.map fun s => (DataW.lit (.string s) : DataW H) := by
        have := congrArg Prod.fst hx
        simpa using this
      have hxl : xs.length = n := by simpa using Lib.mapM_length hm
      have hzl : zs.length = n := by
        have := congrArg List.length hxs
        simp at this
        omega
      apply List.ext_getElem?
      intro i
      by_cases hi : i < n
      · obtain ⟨b, hb, hf⟩ := Lib.mapM_at hm i i (by simp [hi])
        obtain ⟨s, hc, rfl, _⟩ := DataW.trod_string he hf
        have h1 : cs[i]? = some (.string s) := by
          have := congrArg (·[0]?) hc
          simpa [List.getElem?_take, List.getElem?_drop] using this
        have h2 : (xs.map (·.1))[i]? = some (DataW.lit (.string s.data.toList) : DataW H) := by simp [hb]
        rw [hxs] at h2
        simp only [List.getElem?_map, Option.map_eq_some_iff, DataW.lit.injEq, Lit.string.injEq] at h2
        obtain ⟨z', hz', h3⟩ := h2
        simp [h1, hz', ofL, h3]
      · rw [List.getElem?_eq_none (by omega), List.getElem?_eq_none (by simp; omega)]
    · cases h

theorem texts_of_head {P : Program} {W : World} {name : String} {zs : List Bytes} {rest : List (String × DataW Unit)} {g : Nat} {t e : TypeId} {n : Nat}
    (hg : P.globalNamed name = some g) (hty : (P.globals[g]?).map (·.type) = some t) (ht : P.underlying t = some (.array n e)) (he : P.underlying e = some .string) (hce : P.cellsOf e = 1) (hct : P.cellsOf t = n)
    (h : laidMet P ((name, .agg (zs.map fun s => .lit (.string s))) :: rest) W) : ∀ k s, zs[k]? = some s → W.cell? ⟨g, k, none⟩ = some (.string (ofL s)) := by
  obtain ⟨ps, ⟨g', t', cs, fuel, p, q, hg', ht', hvar, hd, _, _⟩, _⟩ := h
  obtain rfl := Option.some.inj (hg.symm.trans hg')
  obtain rfl := Option.some.inj (hty.symm.trans ht')
  intro k s hk
  have h2 := World.var?_cell hg hvar k
  rw [h2, ← Array.getElem?_toList, cells_of_texts ht he hce hct hd]
  simp [hk]

theorem glob_of_laid {W : World} (h : laidMetH Tryz.prog Rows.inboxNoneRow.laid W) (hs : W.ShapedOpen Tryz.prog) : Glob W := by
  have h0 : laidMet Tryz.prog Rows.inboxNoneRow.laid W := h
  have hE : laidMet Tryz.prog [("lamplighter/frame.ends", Lib.tabData .u8 [28, 13])] W := h0.filter (fun x => x.1 == "lamplighter/frame.ends")
  have hV : laidMet Tryz.prog [("lamplighter/msh.versions", .agg (versions.map fun s => .lit (.string s)))] W := h0.filter (fun x => x.1 == "lamplighter/msh.versions")
  have hC : laidMet Tryz.prog [("lamplighter/ack.codes", .agg ([aa, ae, ar].map fun s => .lit (.string s)))] W := h0.filter (fun x => x.1 == "lamplighter/ack.codes")
  have gE : Tryz.prog.globalNamed "lamplighter/frame.ends" = some 0 := by kernel_rfl
  have gV : Tryz.prog.globalNamed "lamplighter/msh.versions" = some 2 := by kernel_rfl
  have gC : Tryz.prog.globalNamed "lamplighter/ack.codes" = some 1 := by kernel_rfl
  have hT := Lib.tabIs_of_head gE (show _ = some 106 by kernel_rfl) Tryz.underlying106 Tryz.underlying5 (by kernel_rfl) (by kernel_rfl) hE
  refine ⟨hT.cell gE 0 (by decide), hT.cell gE 1 (by decide), ?_, ?_, Tryz.laysM144.s1_3 W hs⟩
  · exact texts_of_head gC (show _ = some 173 by kernel_rfl) Tryz.underlying173 Tryz.underlying9 (by kernel_rfl) (by kernel_rfl) hC
  · exact texts_of_head gV (show _ = some 214 by kernel_rfl) Tryz.underlying214 Tryz.underlying9 (by kernel_rfl) (by kernel_rfl) hV
end Go.Proofs.YtgpmnicmgehmbaaGreatDoor


namespace Go.Proofs.YtgpmnicmgehmbaaGreatDoor
open Go.ChangeShapes Go.WideShapes Go.ChangeAt Go.RowKit Lamp

set_option maxRecDepth 100000
theorem ownKnob_none : ownKnob Tryz.prog.godebug = none := by kernel_rfl
theorem laid_out : laidOutB Tryz.prog = true := by kernel_rfl

/-- A datum's cells, laid flat. -/
def flat : Nat → DataW Unit → List Value
  | 0, _ => []
  | n + 1, .agg ps => ps.flatMap (flat n)
  | _ + 1, .lit (.int k z) => [.int k z]
  | _ + 1, .lit (.string s) => [.string (ofL s)]
  | _ + 1, _ => []
def setTo (c : Array Value) : Obj → Obj
  | .cells _ t f => .cells c t f
  | o => o
/-- A heap, the listed variables holding what the row says. -/
noncomputable def laidHeap : List (String × DataW Unit) → Array Obj → Array Obj
  | [], h => h
  | x :: r, h => laidHeap r (h.modify ((Tryz.prog.globalNamed x.1).getD 0) (setTo (flat 4 x.2).toArray))
/-- A world for the witness: the settled one, so turned. -/
noncomputable def laidWorld (l : List (String × DataW Unit)) (os : Os) : World :=
  { World.holding Tryz.prog os ⟨#[], #[], []⟩ with heap := laidHeap l (World.holding Tryz.prog os ⟨#[], #[], []⟩).heap }

namespace cardNone
def wargs : Array Value := #[.int .i64 0, .slice none 0 0]
theorem laid_met (os : Os) : laidMet Tryz.prog Rows.inboxNoneRow.laid ((laidWorld Rows.inboxNoneRow.laid os).forCall (fun _ _ => 0) ⟨#[], wargs, []⟩).memory :=
  laidMet_of_run' 8 (by kernel_rfl) (by kernel_rfl)
theorem reads (os : Os) {H : Type} (enc : TypeId × Value → H) : ∃ places, DataW.whole enc Tryz.prog ((laidWorld Rows.inboxNoneRow.laid os).forCall (fun _ _ => 0) ⟨#[], wargs, []⟩).memory Tryz.f5.params.toList Rows.inboxNoneSpec.vars false wargs.toList 8 = some ([.lit (.int .i64 0), .nil], [], places) :=
  ⟨[], by kernel_rfl⟩
end cardNone
end Go.Proofs.YtgpmnicmgehmbaaGreatDoor


namespace Go.Proofs.YtgpmnicmgehmbaaGreatDoor
open Go.ChangeShapes Go.WideShapes Go.ChangeAt Go.RowKit Lamp
set_option maxRecDepth 100000
namespace cardIds
def wargs : Array Value := #[.slice none 0 0, .slice none 0 0]
theorem laid_met (os : Os) : laidMet Tryz.prog Rows.inboxIdsRow.laid ((laidWorld Rows.inboxIdsRow.laid os).forCall (fun _ _ => 0) ⟨#[], wargs, []⟩).memory :=
  laidMet_of_run' 8 (by kernel_rfl) (by kernel_rfl)
theorem reads (os : Os) {H : Type} (enc : TypeId × Value → H) : ∃ places, DataW.whole enc Tryz.prog ((laidWorld Rows.inboxIdsRow.laid os).forCall (fun _ _ => 0) ⟨#[], wargs, []⟩).memory Tryz.f6.params.toList Rows.inboxIdsSpec.vars false wargs.toList 8 = some ([.nil, .nil], [], places) :=
  ⟨[], by kernel_rfl⟩
theorem contract (H : Type) (enc : TypeId × Value → H) (W : World) (base : Nat) (args : Array Value) (ds gs : List (DataW H)) (before : List MemPlace)
    (hval : ∀ (j : Nat) t v, Tryz.f6.params[j]? = some t → args[j]? = some v → Value.okWide Tryz.prog W .any base t v)
    (hW : DataW.Whole enc Tryz.prog Tryz.f6.params.toList Rows.inboxIdsSpec.vars false W args.toList ds gs before) (hL : laidMetH Tryz.prog Rows.inboxIdsRow.laid W) (hS : W.ShapedOpen Tryz.prog) :
    Calls Tryz.prog 6 args W fun e W' => ∃ v, e = .returned v ∧ Rows.inboxIdsSpec.post enc Tryz.prog Tryz.f6 false true false false W args v W' := by
  have hW' := hW
  obtain ⟨p, q, hA0, hV, rfl, _, _⟩ := hW
  have hA : DataW.TrodAll enc Tryz.prog W 0 (fun _ => true) true Tryz.f6.params.toList args.toList ds p := hA0
  rw [Tryz.params6] at hA hval
  obtain ⟨v0, vs0, d0, ds0, p0, q0, hargs, rfl, rfl, h0, r0⟩ := trodAll_cons hA
  obtain ⟨v1, vs1, d1, ds1, p1, q1, rfl, rfl, rfl, h1, r1⟩ := trodAll_cons r0
  obtain ⟨rfl, rfl, rfl⟩ := trodAll_nil r1
  obtain rfl : args = #[v0, v1] := by cases args with | mk l => exact congrArg Array.mk hargs
  obtain ⟨rfl, rfl⟩ := trodVars_none hV
  obtain ⟨a0, l0, c0, rfl⟩ := okWide_slice Tryz.underlying48 (hval 0 48 v0 rfl rfl)
  obtain ⟨a1, l1, c1, rfl⟩ := okWide_slice Tryz.underlying22 (hval 1 22 v1 rfl rfl)
  simp only [List.append_nil] at hW'
  have hlt : ∀ x ∈ (p0 ++ p1), x.block < W.heap.size := fun x hx => by simpa using hW'.lt x hx
  have hg := glob_of_laid hL hS
  have h6 : 6 ≤ W.heap.size := by
    obtain ⟨o, _, ho, _⟩ := hS.2 6 (of_decide_eq_true (by kernel_rfl)) (of_decide_eq_true (by kernel_rfl))
    have := lt_of_heap ho
    omega
  refine (show Calls Tryz.prog 6 #[.slice a0 l0 c0, .slice a1 l1 c1] W (fun e w' => e = .returned (.bool true) ∧ Chg No W w') from ?_).mono fun e W' ⟨he, hc⟩ => ?_
  · by_cases hl : 30 < l0 ∨ 100 < l1
    · exact ids_short W a0 a1 l0 c0 l1 c1 hg h6 hl
    · obtain ⟨b, hbl, hb⟩ := open_bytes h1 (by omega)
      obtain ⟨zs, hz, hcell, hwf⟩ := open_nums Tryz.underlying48 Tryz.underlying49 cells_u16 h0
      exact ids_long W a0 l0 c0 _ b zs hg h6 hb (by omega) (by omega) hz hcell (fun z hm => range_u16 (hwf z hm))
  subst he
  refine ⟨_, rfl, _, _, p0 ++ p1, [], p0 ++ p1, [], hW', ?_, ?_, rfl, ?_, fun h => by cases h⟩
  · exact trodAll_mk1 (shut_bool Tryz.underlying4 _)
  · have hsh := trodAll_cons_mk (Below.trod laid_out (by kernel_rfl) (of_decide_eq_true (by kernel_rfl)) h0 hc.below (fun x hx => hlt x (by simp only [List.mem_append]; first | exact .inl hx | exact .inr hx | exact .inl (.inl hx) | exact .inl (.inr hx) | exact .inr (.inl hx) | exact .inr (.inr hx)))) (trodAll_mk1 (Below.trod laid_out (by kernel_rfl) (of_decide_eq_true (by kernel_rfl)) h1 hc.below (fun x hx => hlt x (by simp only [List.mem_append]; first | exact .inl hx | exact .inr hx | exact .inl (.inl hx) | exact .inl (.inr hx) | exact .inr (.inl hx) | exact .inr (.inr hx)))))
    exact hsh
  · exact hc.below.frame _

theorem lifted (os : Os) (started : os.Started) (H : Type) (enc : TypeId × Value → H) (F : Stop.Interp) :
    ReturnsInHanded {} Tryz.checked os 6 .any ((OpenSpec.ofChange Rows.inboxIdsSpec).preRow enc Tryz.prog Tryz.f6 Rows.inboxIdsRow.domain false Rows.inboxIdsRow.laid) (((OpenSpec.ofChange Rows.inboxIdsSpec).at F).post enc Tryz.prog Tryz.f6 false true false false) := by
  obtain ⟨places, hx⟩ := reads os enc
  refine returnsInHanded_of_row (C := Tryz.checked) (s := OpenSpec.ofChange Rows.inboxIdsSpec) ownKnob_none started (by kernel_rfl) Tryz.func6
    (witness_row_at (enc := enc) (C := Tryz.checked) false (laidWorld Rows.inboxIdsRow.laid os) wargs rfl (by kernel_rfl) (by kernel_rfl) (by kernel_rfl)
      (OpenSpec.preRow_of_cond 8 hx (by kernel_rfl) (fun k hk => by cases hk) (by kernel_rfl) (laid_met os))) ?_
  intro W base args ds gs before hval hW _ _ _ hL hS _
  exact contract H enc W base args ds gs before hval hW hL hS

theorem said : Rows.InboxIdsSaid :=
  OpenClaim.holds_of_cond 6 Tryz.f6 rfl rfl rfl rfl rfl rfl rfl ⟨rfl, rfl, rfl, rfl, rfl⟩ rfl rfl rfl rfl rfl (by kernel_rfl) Tryz.func6 (by kernel_rfl)
    (of_decide_eq_true (by kernel_rfl)) (by unfold Func.isWrapper; first | (rw [if_pos (by decide +kernel)]; kernel_rfl) | (rw [if_neg (by decide +kernel)]; exact ⟨rfl, rfl⟩))
    (fun os started H enc _ F => by rw [OpenClaim.pre_eq_preRow]; exact lifted os started H enc F)

theorem plain (f : FuncId) (fn : Func) (hf : Tryz.pinned.checked.prog.funcNamed "lamplighter/lamplighterlaw17.InboxIds" = some f) (hfn : Tryz.pinned.checked.prog.funcs[f]? = some fn) :
    true = Tryz.pinned.checked.prog.looks [] ∧ ∀ (j : Nat) t, fn.params[j]? = some t → Tryz.pinned.checked.prog.wantsStandIn t = false := by
  obtain rfl : f = 6 := Option.some.inj ((show Tryz.prog.funcNamed "lamplighter/lamplighterlaw17.InboxIds" = some 6 by kernel_rfl).symm.trans hf) |>.symm
  obtain rfl : fn = Tryz.f6 := (Option.some.inj (Tryz.func6.symm.trans hfn)).symm
  refine ⟨by kernel_rfl, fun j t ht => ?_⟩
  rw [Tryz.params6] at ht
  have h3 : t = 48 ∨ t = 22 := by simpa using Array.mem_of_getElem? ht
  rcases h3 with rfl | rfl
  · exact (show Tryz.prog.wantsStandIn 48 = false by kernel_rfl)
  · exact (show Tryz.prog.wantsStandIn 22 = false by kernel_rfl)

/-- The card. -/
theorem card : Rows.InboxIdsCardSaid :=
  Claim7.holds_tied_plain_at .later [] _ _ _ _ said (fun _ h => by cases h) (by kernel_rfl) (fun _ h => by cases h) inboxIds_row_tie rfl ⟨rfl, rfl⟩ (by kernel_rfl) rfl plain (by kernel_rfl)
#print axioms card
end cardIds
end Go.Proofs.YtgpmnicmgehmbaaGreatDoor
