/- The disk's Append.
   The disk's Truncate and Sync. -/
import Derived.Test.YtgpmnicmgehmbaaGreatDoorB03
import Derived.StillTailTactics

namespace Go.Proofs.YtgpmnicmgehmbaaGreatDoor
open Go.RowKit Lamp
set_option maxRecDepth 100000
set_option maxHeartbeats 400000

section
variable {w : World} {pd m : Nat} {d : Disk} {fs : List FR}

theorem append_bad (name : Bytes) (vb : Value) (hn : named name = false) (hl : name.length ≤ 1000000) :
    Calls Tryz.prog 79 #[.pointer (some ⟨pd, 0, none⟩), .string (ofL name), vb] w fun e w' => e = .returned (.tuple #[.int .i64 0, .int .i64 16]) ∧ Below w.heap.size w w' := by
  have HN := Lib.hid (fun w => named_calls name w hl)
  rw [hn] at HN
  clear hn
  go_enter Tryz.func79, Tryz.ntmps79
  go_wp2_with fail
  refine (HN.out _).mono ?_
  rintro e w1 ⟨rfl, hb⟩
  go_wp2_with fail
  go_ret2
  exact ⟨rfl, hb⟩

/-- The begin of a change leaves the files as they are. -/
theorem DiskAt.turn {w' : World} {d' : Disk} (h : DiskAt w pd m d fs) (hb : w'.heap[pd]? = some (diskObj d' m)) (hf : d'.files = d.files) (hc : Chg (In [pd]) w w') : DiskAt w' pd m d' fs := by
  have hap := h.apart
  simp only [diskBlocks, List.nodup_cons, List.mem_cons, not_or] at hap
  obtain ⟨⟨h1, h2⟩, h3, h4⟩ := hap
  refine ⟨hb, h.map.chg hc (by simpa using fun e => h1 e.symm), hf.trans h.told, fun r hr => ⟨hc.heap (h.each r hr).1 ?_, (h.each r hr).2.kept hc ?_⟩, h.apart⟩
  · simp only [List.mem_singleton]
    rintro rfl
    exact h2 (List.mem_flatMap.2 ⟨r, hr, by simp [FR.blocks]⟩)
  · intro k hk
    simp only [List.mem_singleton]
    rintro rfl
    exact h2 (List.mem_flatMap.2 ⟨r, hr, by simp [FR.blocks, hk]⟩)

/-- A file that is new stands behind the others. -/
theorem DiskAt.fresh {w' : World} {name : Bytes} (h : DiskAt w pd m d fs) (hn : fileOf name d.files = none)
    (hm : MapAt w' m ((fs.map fun r => (r.name, Value.pointer (some ⟨r.fb, 0, none⟩))) ++ [(name, .pointer (some ⟨w.heap.size, 0, none⟩))])) (hc : Chg (In [m]) (w.alloc (fileObj (.slice none 0 0) 0)) w') :
    DiskAt w' pd m { d with files := layFile name ⟨[], 0⟩ d.files } (fs ++ [⟨name, w.heap.size, .slice none 0 0, ⟨[], 0⟩⟩]) := by
  have hap := h.apart
  have hpd := lt_of_heap h.blk
  have hml := h.map.lt
  have hlt : ∀ k ∈ diskBlocks pd m fs, k < w.heap.size := by
    intro k hk
    simp only [diskBlocks, List.mem_cons, List.mem_flatMap] at hk
    rcases hk with rfl | rfl | ⟨r, hr, hk⟩
    · exact hpd
    · exact hml
    · simp only [FR.blocks, List.mem_cons, Option.mem_toList] at hk
      rcases hk with rfl | hk
      · exact lt_of_heap (h.each r hr).1
      · exact (h.each r hr).2.lt hk
  have hc' : Chg (In [m]) w w' := ((Chg.refl _ w).alloc _).trans hc
  have hap2 := hap
  simp only [diskBlocks, List.nodup_cons, List.mem_cons, not_or] at hap2
  obtain ⟨⟨h1, h2⟩, h3, h4⟩ := hap2
  refine ⟨hc'.heap h.blk (by simpa using h1), by simpa using hm, ?_, ?_, ?_⟩
  · show layFile name ⟨[], 0⟩ d.files = _
    rw [layFile_none _ hn, h.told]
    simp
  · intro r hr
    simp only [List.mem_append, List.mem_singleton] at hr
    rcases hr with hr | rfl
    · refine ⟨hc'.heap (h.each r hr).1 ?_, (h.each r hr).2.kept hc' ?_⟩
      · simp only [List.mem_singleton]
        rintro rfl
        exact h3 (List.mem_flatMap.2 ⟨r, hr, by simp [FR.blocks]⟩)
      · intro k hk
        simp only [List.mem_singleton]
        rintro rfl
        exact h3 (List.mem_flatMap.2 ⟨r, hr, by simp [FR.blocks, hk]⟩)
    · exact ⟨hc.heap (heap_alloc_new w _) (by simp; omega), Own.nil _ _⟩
  · have : diskBlocks pd m (fs ++ [⟨name, w.heap.size, .slice none 0 0, ⟨[], 0⟩⟩]) = diskBlocks pd m fs ++ [w.heap.size] := by simp [diskBlocks, FR.blocks, Value.ownBlock]
    rw [this, List.nodup_append]
    refine ⟨hap, by simp, fun a ha b hb => ?_⟩
    simp only [List.mem_singleton] at hb
    have := hlt a ha
    omega

/-- How Append ends. -/
def endAppend : Res (Int × Int) → Ending
  | .ok (n, e) => .returned (.tuple #[.int .i64 n, .int .i64 e])
  | .lost op => crashed op

theorem layFile_twice (name : Bytes) (f g : File) : ∀ l : List (Bytes × File), layFile name g (layFile name f l) = layFile name g l
  | [] => by simp [layFile]
  | (k, h) :: l => by
    by_cases e : k = name
    · simp [layFile, e]
    · simp [layFile, e, layFile_twice name f g l]
theorem layFile_same {name : Bytes} {f : File} : ∀ {l : List (Bytes × File)}, fileOf name l = some f → layFile name f l = l
  | [], h => by simp [fileOf] at h
  | (k, g) :: l, h => by
    simp only [fileOf] at h
    by_cases e : k = name
    · rw [if_pos e] at h
      simp at h
      simp [layFile, e, h]
    · rw [if_neg e] at h
      simp [layFile, e, layFile_same h]
theorem names_apart {name : Bytes} {fs : List FR} (h : fileOf name (fs.map fun r => (r.name, r.f)) = none) : ∀ x ∈ fs, x.name ≠ name := by
  induction fs with
  | nil => simp
  | cons y l ih =>
    simp only [List.map_cons, fileOf] at h
    by_cases e : y.name = name
    · simp [e] at h
    · rw [if_neg e] at h
      intro x hx
      rcases List.mem_cons.1 hx with rfl | hx
      · exact e
      · exact ih h x hx

/-- Behind the bytes' laying: the file's block is stored to, then the disk's own. -/
theorem DiskAt.appended {W w5 : World} {D : Disk} {l1 l2 : List FR} {r : FR} {q' : Option Addr} {k cap' : Nat} {x : Bytes} {D' : Disk} (h : DiskAt W pd m D (l1 ++ r :: l2)) (hl1 : ∀ x ∈ l1, x.name ≠ r.name)
    (hown : Own w5 5 (.slice q' k cap') ((r.f.b ++ x).map u8)) (hchg : Chg (fun k => r.v.ownBlock = some k) W w5)
    (hblk : (Value.slice q' k cap').ownBlock = r.v.ownBlock ∨ (Value.slice q' k cap').ownBlock = some W.heap.size) (hD' : D'.files = layFile r.name ⟨r.f.b ++ x, r.f.safe⟩ D.files)
    {u : Int} (hobj : diskObj D' m = diskObj { D with used := u } m) :
    DiskAt ((w5.setCell ⟨r.fb, 0, none⟩ (.slice q' k cap')).setCell ⟨pd, 2, none⟩ (.int .i64 u)) pd m D' (l1 ++ ⟨r.name, r.fb, .slice q' k cap', ⟨r.f.b ++ x, r.f.safe⟩⟩ :: l2) ∧
      Chg (In (diskBlocks pd m (l1 ++ r :: l2))) W ((w5.setCell ⟨r.fb, 0, none⟩ (.slice q' k cap')).setCell ⟨pd, 2, none⟩ (.int .i64 u)) ∧
      (∀ j ∈ diskBlocks pd m (l1 ++ ⟨r.name, r.fb, .slice q' k cap', ⟨r.f.b ++ x, r.f.safe⟩⟩ :: l2), j ∈ diskBlocks pd m (l1 ++ r :: l2) ∨ W.heap.size ≤ j) := by
  have hr := h.each r (by simp)
  have hap := h.apart
  rw [diskBlocks_mid, List.nodup_append] at hap
  have hrv : r.v.ownBlock ≠ some r.fb := fun e => hap.2.2 r.fb (by simp) r.fb (by simp [e]) rfl
  have hpf : pd ≠ r.fb := by
    have h2 := (List.nodup_append.1 hap.1).2.2 pd (by simp) r.fb (by simp)
    exact h2
  have hb5 : w5.heap[r.fb]? = some (fileObj r.v r.f.safe) := hchg.heap hr.1 hrv
  have hb6 : (w5.setCell ⟨r.fb, 0, none⟩ (.slice q' k cap')).heap[r.fb]? = some (fileObj (.slice q' k cap') r.f.safe) := by
    rw [set_blk hb5 0]; simp [fileObj]
  have hc6 : Chg (fun k => k = r.fb ∨ r.v.ownBlock = some k) W (w5.setCell ⟨r.fb, 0, none⟩ (.slice q' k cap')) := (hchg.mono (fun _ _ x => .inr x)).setCell (.inl (.inl rfl)) _
  have hkk : ∀ j, (Value.slice q' k cap').ownBlock = some j → r.v.ownBlock = some j ∨ W.heap.size ≤ j := by
    intro j hj
    rcases hblk with e | e
    · exact .inl (e ▸ hj)
    · rw [e] at hj; cases hj; exact .inr (Nat.le_refl _)
  have hnf : (Value.slice q' k cap').ownBlock ≠ some r.fb := by
    intro e
    rcases hkk _ e with e | e
    · exact hrv e
    · have := lt_of_heap hr.1; omega
  have ho6 : Own (w5.setCell ⟨r.fb, 0, none⟩ (.slice q' k cap')) 5 (.slice q' k cap') ((r.f.b ++ x).map u8) :=
    hown.kept (S := In [r.fb]) ((Chg.refl _ w5).setCell (by simp) _) (by intro j hj; simp only [List.mem_singleton]; rintro rfl; exact hnf hj)
  have hD6 := h.file hl1 hb6 ho6 hc6 hkk
  have hb7 := set_blk hD6.blk 2 (.int .i64 u)
  have hc7 : Chg (In [pd]) (w5.setCell ⟨r.fb, 0, none⟩ (.slice q' k cap')) ((w5.setCell ⟨r.fb, 0, none⟩ (.slice q' k cap')).setCell ⟨pd, 2, none⟩ (.int .i64 u)) := (Chg.refl _ _).setCell (by simp) _
  refine ⟨hD6.turn (by rw [hb7, hobj]; simp [diskObj]) hD' hc7, ?_, ?_⟩
  · refine (hc6.mono (fun j _ hj => ?_)).trans (hc7.mono (fun j _ hj => by simp at hj; simp [diskBlocks, hj]))
    exact mem_diskBlocks.2 (.inr (.inr ⟨r, by simp, hj⟩))
  · intro j hj
    rcases mem_diskBlocks.1 hj with e | e | ⟨y, hy, hj⟩
    · exact .inl (mem_diskBlocks.2 (.inl e))
    · exact .inl (mem_diskBlocks.2 (.inr (.inl e)))
    · simp only [List.mem_append, List.mem_cons] at hy
      rcases hy with hy | rfl | hy
      · exact .inl (mem_diskBlocks.2 (.inr (.inr ⟨y, by simp [hy], hj⟩)))
      · rcases hj with e | e
        · exact .inl (mem_diskBlocks.2 (.inr (.inr ⟨r, by simp, .inl e⟩)))
        · rcases hkk j (by simpa using e) with e | e
          · exact .inl (mem_diskBlocks.2 (.inr (.inr ⟨r, by simp, .inr e⟩)))
          · exact .inr e
      · exact .inl (mem_diskBlocks.2 (.inr (.inr ⟨y, by simp [hy], hj⟩)))

theorem append_calls (name : Bytes) (vb : Value) (b : Bytes) (h : DiskAt w pd m d fs) (hn : named name = true) (hl : name.length ≤ 1000000) (hbs : Bs w vb b) (hoff : Off (In (diskBlocks pd m fs)) vb)
    (h0 : 0 ≤ d.ops) (h1 : d.ops < 4611686018427387000) (hu0 : 0 ≤ d.used) (hu1 : d.used ≤ 1073741824) (hr0 : 0 ≤ d.room) (hr1 : d.room ≤ 1073741824) (hfl : ∀ f, fileOf name d.files = some f → f.b.length ≤ 1073741824) :
    Calls Tryz.prog 79 #[.pointer (some ⟨pd, 0, none⟩), .string (ofL name), vb] w fun e w' => ∃ fs', DiskAt w' pd m (d.append name b).1 fs' ∧ e = endAppend (d.append name b).2 ∧
      Chg (In (diskBlocks pd m fs)) w w' ∧ ∀ k ∈ diskBlocks pd m fs', k ∈ diskBlocks pd m fs ∨ w.heap.size ≤ k := by
  have HBS := Lib.hid hbs
  obtain ⟨q, cap, rfl, hb1, hb2, hb3, hb4⟩ := hbs
  have HN := Lib.hid (fun w => named_calls name w hl)
  rw [hn] at HN
  have HN2 := Lib.hid hn
  have H0 := Lib.hid h0
  have H1 := Lib.hid h1
  have HFL := Lib.hid hfl
  have HOFF := Lib.hid hoff
  clear hn h0 h1 hfl hoff
  go_enter Tryz.func79, Tryz.ntmps79
  go_wp2_with fail
  refine (HN.out _).mono ?_
  rintro e w1 ⟨rfl, hbel⟩
  go_wp2_with fail
  refine (begin_disk ((Chg.of_below hbel).heap h.blk (fun x => x)) H0.out H1.out).mono ?_
  rintro e w2 ⟨rfl, hbk2, hc2⟩
  have hD1 : DiskAt w1 pd m d fs := ⟨(Chg.of_below hbel).heap h.blk (fun x => x), h.map.chg (Chg.of_below hbel) (fun x => x), h.told,
    fun r hr => ⟨(Chg.of_below hbel).heap (h.each r hr).1 (fun x => x), (h.each r hr).2.kept (Chg.of_below hbel) (fun _ _ x => x)⟩, h.apart⟩
  have hD2 : DiskAt w2 pd m d.begin fs := hD1.turn hbk2 rfl hc2
  have HC2 : Hid (Chg (In (diskBlocks pd m fs)) w w2) := ((Chg.of_below hbel).mono (T := In (diskBlocks pd m fs)) (fun _ _ x => x.elim)).trans (hc2.mono (fun k _ x => by simp at x; simp [diskBlocks, x]))
  have c0 := cell_blk hD2.blk 0
  simp only [List.getElem?_toArray, List.getElem?_cons_zero] at c0
  generalize hG : d.begin.gone = gone
  have HG := Lib.hid hG
  clear hG
  rcases hlk : fileOf name d.files with _ | f
  · have hpl := place_none (fs := fs) (name := name) (by rw [← hD2.told]; exact hlk) 0
    have hl := lookup_none (P := Tryz.prog) Tryz.underlying99 Tryz.underlying9 zero_ptr hD2.map name hpl
    have HLK := Lib.hid hlk
    have c0a := fun o => cell_al c0 o
    have hma : MapAt (w2.alloc (fileObj (.slice none 0 0) 0)) m _ := hD2.map.chg ((Chg.refl No _).alloc _) (fun x => x)
    clear hlk
    go_wp2_with (refine wpList_mapNew rfl 99 _ _ _ rfl Tryz.underlying99 Tryz.underlying9 name _ rfl rfl rfl hma hpl ?_; intro W hm3 hc3)
    have hD3 := hD2.fresh HLK.out hm3 hc3
    have HCW : Hid (Chg (In (diskBlocks pd m fs)) w W) := (HC2.out.alloc _).trans (hc3.mono (fun k _ x => by simp at x; simp [diskBlocks, x]))
    obtain ⟨r, hr⟩ : ∃ r : FR, r = ⟨name, w2.heap.size, .slice none 0 0, ⟨[], 0⟩⟩ := ⟨_, rfl⟩
    have hfb : w2.heap.size = r.fb := by rw [hr]
    have HNEW : Hid (∀ k ∈ diskBlocks pd m (fs ++ [r]), k ∈ diskBlocks pd m fs ∨ w.heap.size ≤ k) := by
      intro k hmem
      rcases mem_diskBlocks.1 hmem with e | e | ⟨x, hx, hk⟩
      · exact .inl (by simp [diskBlocks, e])
      · exact .inl (by simp [diskBlocks, e])
      · rcases List.mem_append.1 hx with hx | hx
        · exact .inl (mem_diskBlocks.2 (.inr (.inr ⟨x, hx, hk⟩)))
        · have hxr : x = r := by simpa using hx
          rw [hxr, hr] at hk
          rcases hk with e | hk
          · exact .inr (by rw [e]; exact HC2.out.size)
          · simp [Value.ownBlock] at hk
    rw [← hr] at hD3
    rw [hfb]
    have HRN : Hid (r.name = name) := by show r.name = name; rw [hr]
    have HRF : Hid (r.f = (fileOf name d.files).getD ⟨[], 0⟩) := by show r.f = _; rw [hr, HLK.out]; rfl
    have HL1 : Hid (∀ x ∈ fs, x.name ≠ r.name) := by
      intro x hx
      rw [HRN.out]
      exact names_apart (by rw [← h.told]; exact HLK.out) x hx
    have HDF : Hid (∀ g, layFile name g (layFile name ⟨[], 0⟩ d.begin.files) = layFile name g d.files) := fun g => layFile_twice _ _ _ _
    have hD : DiskAt W pd m { d.begin with files := layFile name ⟨[], 0⟩ d.begin.files } (fs ++ r :: []) := hD3
    have HRL : Hid (r.f.b.length ≤ 1073741824) := by show r.f.b.length ≤ _; rw [hr]; simp
    clear hD3 hr hfb hma hm3 hc3 hpl hl c0a c0
    obtain ⟨l1, hl1e⟩ : ∃ l1, l1 = fs := ⟨_, rfl⟩
    rw [← hl1e] at hD
    have HL1' : Hid (∀ x ∈ l1, x.name ≠ r.name) := by rw [hl1e]; exact HL1
    have HNEW' : Hid (∀ k ∈ diskBlocks pd m (l1 ++ [r]), k ∈ diskBlocks pd m fs ∨ w.heap.size ≤ k) := by rw [hl1e]; exact HNEW
    clear hl1e
    obtain ⟨l2, hl2e⟩ : ∃ l2 : List FR, l2 = [] := ⟨_, rfl⟩
    rw [← hl2e] at hD HNEW'
    clear hl2e
    obtain ⟨DF, hDF⟩ : ∃ DF, DF = layFile name ⟨[], 0⟩ d.begin.files := ⟨_, rfl⟩
    rw [← hDF] at hD HDF
    clear hDF
    cases gone with
    | true =>
      have c1 : W.cell? ⟨pd, 1, none⟩ = some (.int .i64 d.room) := cell_blk hD.blk 1
      have c2 : W.cell? ⟨pd, 2, none⟩ = some (.int .i64 d.used) := cell_blk hD.blk 2
      have c5 : W.cell? ⟨pd, 5, none⟩ = some (.int .i64 d.keep) := cell_blk hD.blk 5
      have hw : IntKind.i64.wrap (d.room - d.used) = d.room - d.used := by simp [IntKind.wrap, IntKind.bits, IntKind.signed]; omega
      go_quiet (fail)
      go_wp2_with fail
      have hn0 : 0 ≤ max 0 (min (max 0 (min (b.length : Int) (d.room - d.used))) d.keep) := by omega
      have hn1 : max 0 (min (max 0 (min (b.length : Int) (d.room - d.used))) d.keep) ≤ b.length := by omega
      have hn2 : d.used + max 0 (min (max 0 (min (b.length : Int) (d.room - d.used))) d.keep) ≤ 1073741824 := by omega
      generalize hnn : max 0 (min (max 0 (min (b.length : Int) (d.room - d.used))) d.keep) = nn at hn0 hn1 hn2 ⊢
      obtain ⟨n, rfl⟩ := Int.eq_ofNat_of_zero_le hn0
      have HNE := Lib.hid hnn
      clear hnn
      have hnl : n ≤ b.length := by omega
      have hnc : (n : Int) ≤ (cap : Int) := by omega
      have hr3 := hD.each r (by simp)
      have cf : W.cell? ⟨r.fb, 0, none⟩ = some r.v := cell_blk hr3.1 0
      have ff : W.frozen? ⟨r.fb, 0, none⟩ = false := free_blk hr3.1 0
      have f2 : W.frozen? ⟨pd, 2, none⟩ = false := free_blk hD.blk 2
      have hbW : Bs W (.slice q b.length cap) b := HBS.out.chg HCW.out HOFF.out
      have HS : Hid (Src W (.slice q n cap) ((b.take n).map u8)) := (hbW.take n hnl).src
      have HO : Hid (Own W 5 r.v (r.f.b.map u8)) := hr3.2
      have hrv : r.v.ownBlock ≠ some r.fb := fun e => by
        have := hD.apart
        rw [diskBlocks_mid, List.nodup_append] at this
        exact this.2.2 r.fb (by simp) r.fb (by simp [e]) rfl
      have hpv : r.v.ownBlock ≠ some pd := fun e => by
        have := hD.apart
        rw [diskBlocks_mid, List.nodup_append] at this
        exact this.2.2 pd (by simp) pd (by simp [e]) rfl
      have hpf : pd ≠ r.fb := by
        have := hD.apart
        rw [diskBlocks_mid, List.nodup_append] at this
        exact (List.nodup_append.1 this.1).2.2 pd (by simp) r.fb (by simp)
      have hrl : r.f.b.length + n ≤ 140737488355328 := by have := HRL.out; omega
      have htl : (b.take n).length = n := by simp; omega
      have HTL := Lib.hid htl
      clear hw hbW hr3 htl
      have hsn : ∀ (k : Nat) (w : World), (Instr.slice 22 (.slice none k 0) none (some (.int .i64 0)) none).run Tryz.prog w = .ok (.slice none 0 0) w := fun _ _ => by kernel_rfl
      have HQ : Hid (q = none → cap = 0 ∧ n = 0) := fun e => ⟨hb3 e, by have := hb3 e; omega⟩
      clear hb3
      rcases q with _ | ⟨bb, o, sp⟩
      · obtain ⟨rfl, rfl⟩ := HQ.out rfl
        go_region_law ((refine step_wp rfl ?_; refine wp_appB0 _ _ rfl r.v r.f.b rfl ?o1 _ (b.take 0) rfl ?o2 ?o4 ?_; (case o1 => exact HO.out); (case o2 => exact HS.out); (case o4 => (simp; omega)); intro q' cap' w5 hown5 hchg5 hblk5; have k5 : w5.cell? ⟨r.fb, 0, none⟩ = some r.v := hchg5.cell (a := ⟨r.fb, 0, none⟩) cf hrv; have g5 : w5.frozen? ⟨r.fb, 0, none⟩ = false := hchg5.free (a := ⟨r.fb, 0, none⟩) cf ff hrv; have m5 : w5.cell? ⟨pd, 2, none⟩ = some (.int .i64 d.used) := hchg5.cell (a := ⟨pd, 2, none⟩) c2 hpv; have m6 : w5.frozen? ⟨pd, 2, none⟩ = false := hchg5.free (a := ⟨pd, 2, none⟩) c2 f2 hpv))
        go_wp2_with fail
        all_goals
          have hchg5' : Chg (fun k => r.v.ownBlock = some k) W w5 := ⟨hchg5.os, hchg5.tape, hchg5.output, hchg5.size, hchg5.block⟩
          simp only [List.take_zero, List.length_nil, Nat.add_zero] at hown5 hblk5
          obtain ⟨hW7, hC7, hN7⟩ := hD.appended (D' := { d.begin with files := layFile r.name ⟨r.f.b ++ b.take 0, r.f.safe⟩ DF, used := d.used }) (u := d.used) (x := b.take 0) HL1'.out hown5 hchg5' hblk5 rfl rfl
          have hfl : layFile r.name ⟨r.f.b ++ b.take 0, r.f.safe⟩ DF = layFile name ⟨((fileOf name d.files).getD ⟨[], 0⟩).b ++ b.take 0, ((fileOf name d.files).getD ⟨[], 0⟩).safe⟩ d.files := by rw [HRN.out, HRF.out, HDF.out]
          have hsp : d.append name b = ({ { d.begin with files := layFile r.name ⟨r.f.b ++ b.take 0, r.f.safe⟩ DF, used := d.used } with arm := 0 }, .lost (d.ops + 1)) := by
            have e1 : ({ d with ops := d.ops + 1 } : Disk).gone = true := HG.out
            have e2 := HNE.out
            rw [hfl]
            simp only [Disk.append, Disk.begin, HN2.out, Bool.true_eq_false, if_false, e1, if_true, e2, Disk.crash, Int.ofNat_zero, Int.add_zero, Int.toNat_zero]
          refine (crash_disk hW7.blk).mono ?_
          rintro e w8 ⟨rfl, hb8, hc8⟩
          refine ⟨rfl, _, by rw [hsp]; exact hW7.turn hb8 rfl hc8, by rw [hsp]; rfl, ?_, ?_⟩
          · exact (HCW.out.then (hC7.trans (hc8.mono (fun k _ x => by simp at x; simp [diskBlocks, x]))) HNEW'.out)
          · intro k hk
            rcases hN7 k hk with e | e
            · exact HNEW'.out k e
            · exact .inr (Nat.le_trans HCW.out.size e)
      · clear hsn
        go_region_law ((refine step_wp rfl ?_; refine wp_appB0 _ _ rfl r.v r.f.b rfl ?o1 _ (b.take n) rfl ?o2 ?o4 ?_; (case o1 => exact HO.out); (case o2 => exact HS.out); (case o4 => (rw [HTL.out]; exact hrl)); intro q' cap' w5 hown5 hchg5 hblk5; have k5 : w5.cell? ⟨r.fb, 0, none⟩ = some r.v := hchg5.cell (a := ⟨r.fb, 0, none⟩) cf hrv; have g5 : w5.frozen? ⟨r.fb, 0, none⟩ = false := hchg5.free (a := ⟨r.fb, 0, none⟩) cf ff hrv; have m5 : w5.cell? ⟨pd, 2, none⟩ = some (.int .i64 d.used) := hchg5.cell (a := ⟨pd, 2, none⟩) c2 hpv; have m6 : w5.frozen? ⟨pd, 2, none⟩ = false := hchg5.free (a := ⟨pd, 2, none⟩) c2 f2 hpv))
        go_wp2_with fail
        all_goals
          have hchg5' : Chg (fun k => r.v.ownBlock = some k) W w5 := ⟨hchg5.os, hchg5.tape, hchg5.output, hchg5.size, hchg5.block⟩
          rw [HTL.out] at hown5 hblk5
          obtain ⟨hW7, hC7, hN7⟩ := hD.appended (D' := { d.begin with files := layFile r.name ⟨r.f.b ++ b.take n, r.f.safe⟩ DF, used := (d.used + ((n : Nat) : Int)) }) (u := (d.used + ((n : Nat) : Int))) (x := b.take n) HL1'.out hown5 hchg5' hblk5 rfl rfl
          have hfl : layFile r.name ⟨r.f.b ++ b.take n, r.f.safe⟩ DF = layFile name ⟨((fileOf name d.files).getD ⟨[], 0⟩).b ++ b.take n, ((fileOf name d.files).getD ⟨[], 0⟩).safe⟩ d.files := by rw [HRN.out, HRF.out, HDF.out]
          have hsp : d.append name b = ({ { d.begin with files := layFile r.name ⟨r.f.b ++ b.take n, r.f.safe⟩ DF, used := (d.used + ((n : Nat) : Int)) } with arm := 0 }, .lost (d.ops + 1)) := by
            have e1 : ({ d with ops := d.ops + 1 } : Disk).gone = true := HG.out
            have e2 := HNE.out
            rw [hfl]
            simp only [Disk.append, Disk.begin, HN2.out, Bool.true_eq_false, if_false, e1, if_true, e2, Disk.crash, Int.toNat_natCast]
          refine (crash_disk hW7.blk).mono ?_
          rintro e w8 ⟨rfl, hb8, hc8⟩
          refine ⟨rfl, _, by rw [hsp]; exact hW7.turn hb8 rfl hc8, by rw [hsp]; rfl, ?_, ?_⟩
          · exact (HCW.out.then (hC7.trans (hc8.mono (fun k _ x => by simp at x; simp [diskBlocks, x]))) HNEW'.out)
          · intro k hk
            rcases hN7 k hk with e | e
            · exact HNEW'.out k e
            · exact .inr (Nat.le_trans HCW.out.size e)
    | false =>
      have c1 : W.cell? ⟨pd, 1, none⟩ = some (.int .i64 d.room) := cell_blk hD.blk 1
      have c2 : W.cell? ⟨pd, 2, none⟩ = some (.int .i64 d.used) := cell_blk hD.blk 2
      have hw : IntKind.i64.wrap (d.room - d.used) = d.room - d.used := by simp [IntKind.wrap, IntKind.bits, IntKind.signed]; omega
      go_quiet (fail)
      go_wp2_with fail
      have hn0 : 0 ≤ max 0 (min (b.length : Int) (d.room - d.used)) := by omega
      have hn1 : max 0 (min (b.length : Int) (d.room - d.used)) ≤ b.length := by omega
      have hn2 : d.used + max 0 (min (b.length : Int) (d.room - d.used)) ≤ 1073741824 := by omega
      generalize hnn : max 0 (min (b.length : Int) (d.room - d.used)) = nn at hn0 hn1 hn2 ⊢
      obtain ⟨n, rfl⟩ := Int.eq_ofNat_of_zero_le hn0
      have HNE := Lib.hid hnn
      clear hnn
      have hnl : n ≤ b.length := by omega
      have hnc : (n : Int) ≤ (cap : Int) := by omega
      have hr3 := hD.each r (by simp)
      have cf : W.cell? ⟨r.fb, 0, none⟩ = some r.v := cell_blk hr3.1 0
      have ff : W.frozen? ⟨r.fb, 0, none⟩ = false := free_blk hr3.1 0
      have f2 : W.frozen? ⟨pd, 2, none⟩ = false := free_blk hD.blk 2
      have hbW : Bs W (.slice q b.length cap) b := HBS.out.chg HCW.out HOFF.out
      have HS : Hid (Src W (.slice q n cap) ((b.take n).map u8)) := (hbW.take n hnl).src
      have HO : Hid (Own W 5 r.v (r.f.b.map u8)) := hr3.2
      have hrv : r.v.ownBlock ≠ some r.fb := fun e => by
        have := hD.apart
        rw [diskBlocks_mid, List.nodup_append] at this
        exact this.2.2 r.fb (by simp) r.fb (by simp [e]) rfl
      have hpv : r.v.ownBlock ≠ some pd := fun e => by
        have := hD.apart
        rw [diskBlocks_mid, List.nodup_append] at this
        exact this.2.2 pd (by simp) pd (by simp [e]) rfl
      have hpf : pd ≠ r.fb := by
        have := hD.apart
        rw [diskBlocks_mid, List.nodup_append] at this
        exact (List.nodup_append.1 this.1).2.2 pd (by simp) r.fb (by simp)
      have hrl : r.f.b.length + n ≤ 140737488355328 := by have := HRL.out; omega
      have htl : (b.take n).length = n := by simp; omega
      have HTL := Lib.hid htl
      clear hw hbW hr3 htl
      have hsn : ∀ (k : Nat) (w : World), (Instr.slice 22 (.slice none k 0) none (some (.int .i64 0)) none).run Tryz.prog w = .ok (.slice none 0 0) w := fun _ _ => by kernel_rfl
      have HQ : Hid (q = none → cap = 0 ∧ n = 0) := fun e => ⟨hb3 e, by have := hb3 e; omega⟩
      clear hb3
      rcases q with _ | ⟨bb, o, sp⟩
      · obtain ⟨rfl, rfl⟩ := HQ.out rfl
        go_region_law ((refine step_wp rfl ?_; refine wp_appB0 _ _ rfl r.v r.f.b rfl ?o1 _ (b.take 0) rfl ?o2 ?o4 ?_; (case o1 => exact HO.out); (case o2 => exact HS.out); (case o4 => (simp; omega)); intro q' cap' w5 hown5 hchg5 hblk5; have k5 : w5.cell? ⟨r.fb, 0, none⟩ = some r.v := hchg5.cell (a := ⟨r.fb, 0, none⟩) cf hrv; have g5 : w5.frozen? ⟨r.fb, 0, none⟩ = false := hchg5.free (a := ⟨r.fb, 0, none⟩) cf ff hrv; have m5 : w5.cell? ⟨pd, 2, none⟩ = some (.int .i64 d.used) := hchg5.cell (a := ⟨pd, 2, none⟩) c2 hpv; have m6 : w5.frozen? ⟨pd, 2, none⟩ = false := hchg5.free (a := ⟨pd, 2, none⟩) c2 f2 hpv))
        go_wp2_with fail
        all_goals
          have hchg5' : Chg (fun k => r.v.ownBlock = some k) W w5 := ⟨hchg5.os, hchg5.tape, hchg5.output, hchg5.size, hchg5.block⟩
          simp only [List.take_zero, List.length_nil, Nat.add_zero] at hown5 hblk5
          obtain ⟨hW7, hC7, hN7⟩ := hD.appended (D' := { d.begin with files := layFile r.name ⟨r.f.b ++ b.take 0, r.f.safe⟩ DF, used := d.used }) (u := d.used) (x := b.take 0) HL1'.out hown5 hchg5' hblk5 rfl rfl
          have hfl : layFile r.name ⟨r.f.b ++ b.take 0, r.f.safe⟩ DF = layFile name ⟨((fileOf name d.files).getD ⟨[], 0⟩).b ++ b.take 0, ((fileOf name d.files).getD ⟨[], 0⟩).safe⟩ d.files := by rw [HRN.out, HRF.out, HDF.out]
          have hsp : d.append name b = ({ d.begin with files := layFile r.name ⟨r.f.b ++ b.take 0, r.f.safe⟩ DF, used := d.used }, .ok (((0 : Nat) : Int), if ((0 : Nat) : Int) < b.length then 4 else 0)) := by
            have e1 : ({ d with ops := d.ops + 1 } : Disk).gone = false := HG.out
            have e2 := HNE.out
            rw [hfl]
            simp only [Disk.append, Disk.begin, HN2.out, Bool.true_eq_false, Bool.false_eq_true, if_false, e1, e2, Int.ofNat_zero, Int.add_zero, Int.toNat_zero]
          go_ret2
          refine ⟨_, by rw [hsp]; exact hW7, ?_, HCW.out.then hC7 HNEW'.out, ?_⟩
          · rw [hsp]
            first
              | (rw [if_pos (by omega)]; rfl)
              | (rw [if_neg (by omega)]; rfl)
          · intro k hk
            rcases hN7 k hk with e | e
            · exact HNEW'.out k e
            · exact .inr (Nat.le_trans HCW.out.size e)
      · clear hsn
        go_region_law ((refine step_wp rfl ?_; refine wp_appB0 _ _ rfl r.v r.f.b rfl ?o1 _ (b.take n) rfl ?o2 ?o4 ?_; (case o1 => exact HO.out); (case o2 => exact HS.out); (case o4 => (rw [HTL.out]; exact hrl)); intro q' cap' w5 hown5 hchg5 hblk5; have k5 : w5.cell? ⟨r.fb, 0, none⟩ = some r.v := hchg5.cell (a := ⟨r.fb, 0, none⟩) cf hrv; have g5 : w5.frozen? ⟨r.fb, 0, none⟩ = false := hchg5.free (a := ⟨r.fb, 0, none⟩) cf ff hrv; have m5 : w5.cell? ⟨pd, 2, none⟩ = some (.int .i64 d.used) := hchg5.cell (a := ⟨pd, 2, none⟩) c2 hpv; have m6 : w5.frozen? ⟨pd, 2, none⟩ = false := hchg5.free (a := ⟨pd, 2, none⟩) c2 f2 hpv))
        go_wp2_with fail
        all_goals
          have hchg5' : Chg (fun k => r.v.ownBlock = some k) W w5 := ⟨hchg5.os, hchg5.tape, hchg5.output, hchg5.size, hchg5.block⟩
          rw [HTL.out] at hown5 hblk5
          obtain ⟨hW7, hC7, hN7⟩ := hD.appended (D' := { d.begin with files := layFile r.name ⟨r.f.b ++ b.take n, r.f.safe⟩ DF, used := (d.used + ((n : Nat) : Int)) }) (u := (d.used + ((n : Nat) : Int))) (x := b.take n) HL1'.out hown5 hchg5' hblk5 rfl rfl
          have hfl : layFile r.name ⟨r.f.b ++ b.take n, r.f.safe⟩ DF = layFile name ⟨((fileOf name d.files).getD ⟨[], 0⟩).b ++ b.take n, ((fileOf name d.files).getD ⟨[], 0⟩).safe⟩ d.files := by rw [HRN.out, HRF.out, HDF.out]
          have hsp : d.append name b = ({ d.begin with files := layFile r.name ⟨r.f.b ++ b.take n, r.f.safe⟩ DF, used := (d.used + ((n : Nat) : Int)) }, .ok (((n : Nat) : Int), if ((n : Nat) : Int) < b.length then 4 else 0)) := by
            have e1 : ({ d with ops := d.ops + 1 } : Disk).gone = false := HG.out
            have e2 := HNE.out
            rw [hfl]
            simp only [Disk.append, Disk.begin, HN2.out, Bool.true_eq_false, Bool.false_eq_true, if_false, e1, e2, Int.toNat_natCast]
          go_ret2
          refine ⟨_, by rw [hsp]; exact hW7, ?_, HCW.out.then hC7 HNEW'.out, ?_⟩
          · rw [hsp]
            first
              | (rw [if_pos (by omega)]; rfl)
              | (rw [if_neg (by omega)]; rfl)
          · intro k hk
            rcases hN7 k hk with e | e
            · exact HNEW'.out k e
            · exact .inr (Nat.le_trans HCW.out.size e)
  · obtain ⟨l1, r, l2, hfs, hrn, hrf, hl1, hpl⟩ := place_some (fs := fs) (name := name) (f := f) (by rw [← hD2.told]; exact hlk) 0
    have hl := lookup_found (P := Tryz.prog) Tryz.underlying99 Tryz.underlying9 hD2.map name hpl
    have HRN := Lib.hid hrn
    have HRF : Hid (r.f = (fileOf name d.files).getD ⟨[], 0⟩) := by show r.f = _; rw [hlk]; exact hrf
    have HRL : Hid (r.f.b.length ≤ 1073741824) := by show r.f.b.length ≤ _; rw [hrf]; exact HFL.out f hlk
    have HL1' : Hid (∀ x ∈ l1, x.name ≠ r.name) := by intro x hx; rw [hrn]; exact hl1 x hx
    have HDF : Hid (∀ g, layFile name g d.begin.files = layFile name g d.files) := fun g => rfl
    have hD : DiskAt w2 pd m { d.begin with files := d.begin.files } (l1 ++ r :: l2) := by rw [← hfs]; exact hD2
    have HNEW' : Hid (∀ k ∈ diskBlocks pd m (l1 ++ r :: l2), k ∈ diskBlocks pd m fs ∨ w.heap.size ≤ k) := by intro k hk; rw [hfs]; exact .inl hk
    obtain ⟨W, hW⟩ : ∃ W, W = w2 := ⟨_, rfl⟩
    have HCW : Hid (Chg (In (diskBlocks pd m fs)) w W) := by rw [hW]; exact HC2
    obtain ⟨DF, hDF⟩ : ∃ DF, DF = d.begin.files := ⟨_, rfl⟩
    rw [← hDF] at hD HDF
    clear hDF hlk hfs hrn hrf hl1 hpl
    go_wp2_with fail
    rw [← hW] at hD ⊢
    clear hW hl c0
    cases gone with
    | true =>
      have c1 : W.cell? ⟨pd, 1, none⟩ = some (.int .i64 d.room) := cell_blk hD.blk 1
      have c2 : W.cell? ⟨pd, 2, none⟩ = some (.int .i64 d.used) := cell_blk hD.blk 2
      have c5 : W.cell? ⟨pd, 5, none⟩ = some (.int .i64 d.keep) := cell_blk hD.blk 5
      have hw : IntKind.i64.wrap (d.room - d.used) = d.room - d.used := by simp [IntKind.wrap, IntKind.bits, IntKind.signed]; omega
      go_quiet (fail)
      go_wp2_with fail
      have hn0 : 0 ≤ max 0 (min (max 0 (min (b.length : Int) (d.room - d.used))) d.keep) := by omega
      have hn1 : max 0 (min (max 0 (min (b.length : Int) (d.room - d.used))) d.keep) ≤ b.length := by omega
      have hn2 : d.used + max 0 (min (max 0 (min (b.length : Int) (d.room - d.used))) d.keep) ≤ 1073741824 := by omega
      generalize hnn : max 0 (min (max 0 (min (b.length : Int) (d.room - d.used))) d.keep) = nn at hn0 hn1 hn2 ⊢
      obtain ⟨n, rfl⟩ := Int.eq_ofNat_of_zero_le hn0
      have HNE := Lib.hid hnn
      clear hnn
      have hnl : n ≤ b.length := by omega
      have hnc : (n : Int) ≤ (cap : Int) := by omega
      have hr3 := hD.each r (by simp)
      have cf : W.cell? ⟨r.fb, 0, none⟩ = some r.v := cell_blk hr3.1 0
      have ff : W.frozen? ⟨r.fb, 0, none⟩ = false := free_blk hr3.1 0
      have f2 : W.frozen? ⟨pd, 2, none⟩ = false := free_blk hD.blk 2
      have hbW : Bs W (.slice q b.length cap) b := HBS.out.chg HCW.out HOFF.out
      have HS : Hid (Src W (.slice q n cap) ((b.take n).map u8)) := (hbW.take n hnl).src
      have HO : Hid (Own W 5 r.v (r.f.b.map u8)) := hr3.2
      have hrv : r.v.ownBlock ≠ some r.fb := fun e => by
        have := hD.apart
        rw [diskBlocks_mid, List.nodup_append] at this
        exact this.2.2 r.fb (by simp) r.fb (by simp [e]) rfl
      have hpv : r.v.ownBlock ≠ some pd := fun e => by
        have := hD.apart
        rw [diskBlocks_mid, List.nodup_append] at this
        exact this.2.2 pd (by simp) pd (by simp [e]) rfl
      have hpf : pd ≠ r.fb := by
        have := hD.apart
        rw [diskBlocks_mid, List.nodup_append] at this
        exact (List.nodup_append.1 this.1).2.2 pd (by simp) r.fb (by simp)
      have hrl : r.f.b.length + n ≤ 140737488355328 := by have := HRL.out; omega
      have htl : (b.take n).length = n := by simp; omega
      have HTL := Lib.hid htl
      clear hw hbW hr3 htl
      have hsn : ∀ (k : Nat) (w : World), (Instr.slice 22 (.slice none k 0) none (some (.int .i64 0)) none).run Tryz.prog w = .ok (.slice none 0 0) w := fun _ _ => by kernel_rfl
      have HQ : Hid (q = none → cap = 0 ∧ n = 0) := fun e => ⟨hb3 e, by have := hb3 e; omega⟩
      clear hb3
      rcases q with _ | ⟨bb, o, sp⟩
      · obtain ⟨rfl, rfl⟩ := HQ.out rfl
        go_region_law ((refine step_wp rfl ?_; refine wp_appB0 _ _ rfl r.v r.f.b rfl ?o1 _ (b.take 0) rfl ?o2 ?o4 ?_; (case o1 => exact HO.out); (case o2 => exact HS.out); (case o4 => (simp; omega)); intro q' cap' w5 hown5 hchg5 hblk5; have k5 : w5.cell? ⟨r.fb, 0, none⟩ = some r.v := hchg5.cell (a := ⟨r.fb, 0, none⟩) cf hrv; have g5 : w5.frozen? ⟨r.fb, 0, none⟩ = false := hchg5.free (a := ⟨r.fb, 0, none⟩) cf ff hrv; have m5 : w5.cell? ⟨pd, 2, none⟩ = some (.int .i64 d.used) := hchg5.cell (a := ⟨pd, 2, none⟩) c2 hpv; have m6 : w5.frozen? ⟨pd, 2, none⟩ = false := hchg5.free (a := ⟨pd, 2, none⟩) c2 f2 hpv))
        go_wp2_with fail
        all_goals
          have hchg5' : Chg (fun k => r.v.ownBlock = some k) W w5 := ⟨hchg5.os, hchg5.tape, hchg5.output, hchg5.size, hchg5.block⟩
          simp only [List.take_zero, List.length_nil, Nat.add_zero] at hown5 hblk5
          obtain ⟨hW7, hC7, hN7⟩ := hD.appended (D' := { d.begin with files := layFile r.name ⟨r.f.b ++ b.take 0, r.f.safe⟩ DF, used := d.used }) (u := d.used) (x := b.take 0) HL1'.out hown5 hchg5' hblk5 rfl rfl
          have hfl : layFile r.name ⟨r.f.b ++ b.take 0, r.f.safe⟩ DF = layFile name ⟨((fileOf name d.files).getD ⟨[], 0⟩).b ++ b.take 0, ((fileOf name d.files).getD ⟨[], 0⟩).safe⟩ d.files := by rw [HRN.out, HRF.out, HDF.out]
          have hsp : d.append name b = ({ { d.begin with files := layFile r.name ⟨r.f.b ++ b.take 0, r.f.safe⟩ DF, used := d.used } with arm := 0 }, .lost (d.ops + 1)) := by
            have e1 : ({ d with ops := d.ops + 1 } : Disk).gone = true := HG.out
            have e2 := HNE.out
            rw [hfl]
            simp only [Disk.append, Disk.begin, HN2.out, Bool.true_eq_false, if_false, e1, if_true, e2, Disk.crash, Int.ofNat_zero, Int.add_zero, Int.toNat_zero]
          refine (crash_disk hW7.blk).mono ?_
          rintro e w8 ⟨rfl, hb8, hc8⟩
          refine ⟨rfl, _, by rw [hsp]; exact hW7.turn hb8 rfl hc8, by rw [hsp]; rfl, ?_, ?_⟩
          · exact (HCW.out.then (hC7.trans (hc8.mono (fun k _ x => by simp at x; simp [diskBlocks, x]))) HNEW'.out)
          · intro k hk
            rcases hN7 k hk with e | e
            · exact HNEW'.out k e
            · exact .inr (Nat.le_trans HCW.out.size e)
      · clear hsn
        go_region_law ((refine step_wp rfl ?_; refine wp_appB0 _ _ rfl r.v r.f.b rfl ?o1 _ (b.take n) rfl ?o2 ?o4 ?_; (case o1 => exact HO.out); (case o2 => exact HS.out); (case o4 => (rw [HTL.out]; exact hrl)); intro q' cap' w5 hown5 hchg5 hblk5; have k5 : w5.cell? ⟨r.fb, 0, none⟩ = some r.v := hchg5.cell (a := ⟨r.fb, 0, none⟩) cf hrv; have g5 : w5.frozen? ⟨r.fb, 0, none⟩ = false := hchg5.free (a := ⟨r.fb, 0, none⟩) cf ff hrv; have m5 : w5.cell? ⟨pd, 2, none⟩ = some (.int .i64 d.used) := hchg5.cell (a := ⟨pd, 2, none⟩) c2 hpv; have m6 : w5.frozen? ⟨pd, 2, none⟩ = false := hchg5.free (a := ⟨pd, 2, none⟩) c2 f2 hpv))
        go_wp2_with fail
        all_goals
          have hchg5' : Chg (fun k => r.v.ownBlock = some k) W w5 := ⟨hchg5.os, hchg5.tape, hchg5.output, hchg5.size, hchg5.block⟩
          rw [HTL.out] at hown5 hblk5
          obtain ⟨hW7, hC7, hN7⟩ := hD.appended (D' := { d.begin with files := layFile r.name ⟨r.f.b ++ b.take n, r.f.safe⟩ DF, used := (d.used + ((n : Nat) : Int)) }) (u := (d.used + ((n : Nat) : Int))) (x := b.take n) HL1'.out hown5 hchg5' hblk5 rfl rfl
          have hfl : layFile r.name ⟨r.f.b ++ b.take n, r.f.safe⟩ DF = layFile name ⟨((fileOf name d.files).getD ⟨[], 0⟩).b ++ b.take n, ((fileOf name d.files).getD ⟨[], 0⟩).safe⟩ d.files := by rw [HRN.out, HRF.out, HDF.out]
          have hsp : d.append name b = ({ { d.begin with files := layFile r.name ⟨r.f.b ++ b.take n, r.f.safe⟩ DF, used := (d.used + ((n : Nat) : Int)) } with arm := 0 }, .lost (d.ops + 1)) := by
            have e1 : ({ d with ops := d.ops + 1 } : Disk).gone = true := HG.out
            have e2 := HNE.out
            rw [hfl]
            simp only [Disk.append, Disk.begin, HN2.out, Bool.true_eq_false, if_false, e1, if_true, e2, Disk.crash, Int.toNat_natCast]
          refine (crash_disk hW7.blk).mono ?_
          rintro e w8 ⟨rfl, hb8, hc8⟩
          refine ⟨rfl, _, by rw [hsp]; exact hW7.turn hb8 rfl hc8, by rw [hsp]; rfl, ?_, ?_⟩
          · exact (HCW.out.then (hC7.trans (hc8.mono (fun k _ x => by simp at x; simp [diskBlocks, x]))) HNEW'.out)
          · intro k hk
            rcases hN7 k hk with e | e
            · exact HNEW'.out k e
            · exact .inr (Nat.le_trans HCW.out.size e)
    | false =>
      have c1 : W.cell? ⟨pd, 1, none⟩ = some (.int .i64 d.room) := cell_blk hD.blk 1
      have c2 : W.cell? ⟨pd, 2, none⟩ = some (.int .i64 d.used) := cell_blk hD.blk 2
      have hw : IntKind.i64.wrap (d.room - d.used) = d.room - d.used := by simp [IntKind.wrap, IntKind.bits, IntKind.signed]; omega
      go_quiet (fail)
      go_wp2_with fail
      have hn0 : 0 ≤ max 0 (min (b.length : Int) (d.room - d.used)) := by omega
      have hn1 : max 0 (min (b.length : Int) (d.room - d.used)) ≤ b.length := by omega
      have hn2 : d.used + max 0 (min (b.length : Int) (d.room - d.used)) ≤ 1073741824 := by omega
      generalize hnn : max 0 (min (b.length : Int) (d.room - d.used)) = nn at hn0 hn1 hn2 ⊢
      obtain ⟨n, rfl⟩ := Int.eq_ofNat_of_zero_le hn0
      have HNE := Lib.hid hnn
      clear hnn
      have hnl : n ≤ b.length := by omega
      have hnc : (n : Int) ≤ (cap : Int) := by omega
      have hr3 := hD.each r (by simp)
      have cf : W.cell? ⟨r.fb, 0, none⟩ = some r.v := cell_blk hr3.1 0
      have ff : W.frozen? ⟨r.fb, 0, none⟩ = false := free_blk hr3.1 0
      have f2 : W.frozen? ⟨pd, 2, none⟩ = false := free_blk hD.blk 2
      have hbW : Bs W (.slice q b.length cap) b := HBS.out.chg HCW.out HOFF.out
      have HS : Hid (Src W (.slice q n cap) ((b.take n).map u8)) := (hbW.take n hnl).src
      have HO : Hid (Own W 5 r.v (r.f.b.map u8)) := hr3.2
      have hrv : r.v.ownBlock ≠ some r.fb := fun e => by
        have := hD.apart
        rw [diskBlocks_mid, List.nodup_append] at this
        exact this.2.2 r.fb (by simp) r.fb (by simp [e]) rfl
      have hpv : r.v.ownBlock ≠ some pd := fun e => by
        have := hD.apart
        rw [diskBlocks_mid, List.nodup_append] at this
        exact this.2.2 pd (by simp) pd (by simp [e]) rfl
      have hpf : pd ≠ r.fb := by
        have := hD.apart
        rw [diskBlocks_mid, List.nodup_append] at this
        exact (List.nodup_append.1 this.1).2.2 pd (by simp) r.fb (by simp)
      have hrl : r.f.b.length + n ≤ 140737488355328 := by have := HRL.out; omega
      have htl : (b.take n).length = n := by simp; omega
      have HTL := Lib.hid htl
      clear hw hbW hr3 htl
      have hsn : ∀ (k : Nat) (w : World), (Instr.slice 22 (.slice none k 0) none (some (.int .i64 0)) none).run Tryz.prog w = .ok (.slice none 0 0) w := fun _ _ => by kernel_rfl
      have HQ : Hid (q = none → cap = 0 ∧ n = 0) := fun e => ⟨hb3 e, by have := hb3 e; omega⟩
      clear hb3
      rcases q with _ | ⟨bb, o, sp⟩
      · obtain ⟨rfl, rfl⟩ := HQ.out rfl
        go_region_law ((refine step_wp rfl ?_; refine wp_appB0 _ _ rfl r.v r.f.b rfl ?o1 _ (b.take 0) rfl ?o2 ?o4 ?_; (case o1 => exact HO.out); (case o2 => exact HS.out); (case o4 => (simp; omega)); intro q' cap' w5 hown5 hchg5 hblk5; have k5 : w5.cell? ⟨r.fb, 0, none⟩ = some r.v := hchg5.cell (a := ⟨r.fb, 0, none⟩) cf hrv; have g5 : w5.frozen? ⟨r.fb, 0, none⟩ = false := hchg5.free (a := ⟨r.fb, 0, none⟩) cf ff hrv; have m5 : w5.cell? ⟨pd, 2, none⟩ = some (.int .i64 d.used) := hchg5.cell (a := ⟨pd, 2, none⟩) c2 hpv; have m6 : w5.frozen? ⟨pd, 2, none⟩ = false := hchg5.free (a := ⟨pd, 2, none⟩) c2 f2 hpv))
        go_wp2_with fail
        all_goals
          have hchg5' : Chg (fun k => r.v.ownBlock = some k) W w5 := ⟨hchg5.os, hchg5.tape, hchg5.output, hchg5.size, hchg5.block⟩
          simp only [List.take_zero, List.length_nil, Nat.add_zero] at hown5 hblk5
          obtain ⟨hW7, hC7, hN7⟩ := hD.appended (D' := { d.begin with files := layFile r.name ⟨r.f.b ++ b.take 0, r.f.safe⟩ DF, used := d.used }) (u := d.used) (x := b.take 0) HL1'.out hown5 hchg5' hblk5 rfl rfl
          have hfl : layFile r.name ⟨r.f.b ++ b.take 0, r.f.safe⟩ DF = layFile name ⟨((fileOf name d.files).getD ⟨[], 0⟩).b ++ b.take 0, ((fileOf name d.files).getD ⟨[], 0⟩).safe⟩ d.files := by rw [HRN.out, HRF.out, HDF.out]
          have hsp : d.append name b = ({ d.begin with files := layFile r.name ⟨r.f.b ++ b.take 0, r.f.safe⟩ DF, used := d.used }, .ok (((0 : Nat) : Int), if ((0 : Nat) : Int) < b.length then 4 else 0)) := by
            have e1 : ({ d with ops := d.ops + 1 } : Disk).gone = false := HG.out
            have e2 := HNE.out
            rw [hfl]
            simp only [Disk.append, Disk.begin, HN2.out, Bool.true_eq_false, Bool.false_eq_true, if_false, e1, e2, Int.ofNat_zero, Int.add_zero, Int.toNat_zero]
          go_ret2
          refine ⟨_, by rw [hsp]; exact hW7, ?_, HCW.out.then hC7 HNEW'.out, ?_⟩
          · rw [hsp]
            first
              | (rw [if_pos (by omega)]; rfl)
              | (rw [if_neg (by omega)]; rfl)
          · intro k hk
            rcases hN7 k hk with e | e
            · exact HNEW'.out k e
            · exact .inr (Nat.le_trans HCW.out.size e)
      · clear hsn
        go_region_law ((refine step_wp rfl ?_; refine wp_appB0 _ _ rfl r.v r.f.b rfl ?o1 _ (b.take n) rfl ?o2 ?o4 ?_; (case o1 => exact HO.out); (case o2 => exact HS.out); (case o4 => (rw [HTL.out]; exact hrl)); intro q' cap' w5 hown5 hchg5 hblk5; have k5 : w5.cell? ⟨r.fb, 0, none⟩ = some r.v := hchg5.cell (a := ⟨r.fb, 0, none⟩) cf hrv; have g5 : w5.frozen? ⟨r.fb, 0, none⟩ = false := hchg5.free (a := ⟨r.fb, 0, none⟩) cf ff hrv; have m5 : w5.cell? ⟨pd, 2, none⟩ = some (.int .i64 d.used) := hchg5.cell (a := ⟨pd, 2, none⟩) c2 hpv; have m6 : w5.frozen? ⟨pd, 2, none⟩ = false := hchg5.free (a := ⟨pd, 2, none⟩) c2 f2 hpv))
        go_wp2_with fail
        all_goals
          have hchg5' : Chg (fun k => r.v.ownBlock = some k) W w5 := ⟨hchg5.os, hchg5.tape, hchg5.output, hchg5.size, hchg5.block⟩
          rw [HTL.out] at hown5 hblk5
          obtain ⟨hW7, hC7, hN7⟩ := hD.appended (D' := { d.begin with files := layFile r.name ⟨r.f.b ++ b.take n, r.f.safe⟩ DF, used := (d.used + ((n : Nat) : Int)) }) (u := (d.used + ((n : Nat) : Int))) (x := b.take n) HL1'.out hown5 hchg5' hblk5 rfl rfl
          have hfl : layFile r.name ⟨r.f.b ++ b.take n, r.f.safe⟩ DF = layFile name ⟨((fileOf name d.files).getD ⟨[], 0⟩).b ++ b.take n, ((fileOf name d.files).getD ⟨[], 0⟩).safe⟩ d.files := by rw [HRN.out, HRF.out, HDF.out]
          have hsp : d.append name b = ({ d.begin with files := layFile r.name ⟨r.f.b ++ b.take n, r.f.safe⟩ DF, used := (d.used + ((n : Nat) : Int)) }, .ok (((n : Nat) : Int), if ((n : Nat) : Int) < b.length then 4 else 0)) := by
            have e1 : ({ d with ops := d.ops + 1 } : Disk).gone = false := HG.out
            have e2 := HNE.out
            rw [hfl]
            simp only [Disk.append, Disk.begin, HN2.out, Bool.true_eq_false, Bool.false_eq_true, if_false, e1, e2, Int.toNat_natCast]
          go_ret2
          refine ⟨_, by rw [hsp]; exact hW7, ?_, HCW.out.then hC7 HNEW'.out, ?_⟩
          · rw [hsp]
            first
              | (rw [if_pos (by omega)]; rfl)
              | (rw [if_neg (by omega)]; rfl)
          · intro k hk
            rcases hN7 k hk with e | e
            · exact HNEW'.out k e
            · exact .inr (Nat.le_trans HCW.out.size e)
end
end Go.Proofs.YtgpmnicmgehmbaaGreatDoor


namespace Go.Proofs.YtgpmnicmgehmbaaGreatDoor
open Go.RowKit Lamp
set_option maxRecDepth 100000
set_option maxHeartbeats 400000

theorem Own.short {w : World} {E : TypeId} {v : Value} {xs : List Value} (h : Own w E v xs) (n : Nat) (hn : n ≤ xs.length) :
    ∃ q cap, v = .slice q xs.length cap ∧ xs.length ≤ cap ∧ cap ≤ maxLen ∧ (q = none → cap = 0) ∧ Own w E (.slice q n cap) (xs.take n) := by
  obtain ⟨h1, h2⟩ := h
  rcases h2 with ⟨rfl, h0⟩ | ⟨g, cap, cur, rfl, hb, hg, h3, h4, h5, h6⟩
  · obtain rfl : xs = [] := List.eq_nil_of_length_eq_zero h0
    obtain rfl : n = 0 := by simpa using hn
    exact ⟨none, 0, rfl, Nat.le_refl _, by decide, fun _ => rfl, Own.nil _ _⟩
  · refine ⟨some ⟨g, 0, none⟩, cap, rfl, h3, h4, by simp, by simp, .inr ⟨g, cap, cur, by simp [Nat.min_eq_left hn], hb, hg, by simp; omega, h4, h5, ?_⟩⟩
    rw [← h6]
    simp [List.take_take]
    try (congr 1; omega)

section
variable {w : World} {pd m : Nat} {d : Disk} {fs : List FR}

/-- The disk's blocks were written to, and some that are new; it is D now. -/
def DiskTo (w w' : World) (pd m : Nat) (fs : List FR) (D : Disk) : Prop :=
  ∃ fs', DiskAt w' pd m D fs' ∧ Chg (In (diskBlocks pd m fs)) w w' ∧ ∀ k ∈ diskBlocks pd m fs', k ∈ diskBlocks pd m fs ∨ w.heap.size ≤ k
theorem DiskTo.before {w0 w' : World} {D : Disk} (h : DiskTo w w' pd m fs D) (hc : Chg (In (diskBlocks pd m fs)) w0 w) : DiskTo w0 w' pd m fs D := by
  obtain ⟨fs', h1, h2, h3⟩ := h
  exact ⟨fs', h1, hc.trans h2, fun k hk => (h3 k hk).imp id (fun x => Nat.le_trans hc.size x)⟩
theorem pd_in (pd m : Nat) (fs : List FR) : pd ∈ diskBlocks pd m fs := by simp [diskBlocks]
theorem Chg.atDisk {w w' : World} (h : Chg (In [pd]) w w') (m : Nat) (fs : List FR) : Chg (In (diskBlocks pd m fs)) w w' :=
  h.mono (fun k _ x => by simp at x; rw [x]; exact pd_in _ _ _)
theorem DiskTo.turn {w' w'' : World} {D D' : Disk} (h : DiskTo w w' pd m fs D) (hb : w''.heap[pd]? = some (diskObj D' m)) (hf : D'.files = D.files) (hc : Chg (In [pd]) w' w'') : DiskTo w w'' pd m fs D' := by
  obtain ⟨fs', h1, h2, h3⟩ := h
  exact ⟨fs', h1.turn hb hf hc, h2.trans (hc.atDisk _ _), h3⟩
theorem DiskTo.same (h : DiskAt w pd m d fs) : DiskTo w w pd m fs d := ⟨fs, h, Chg.refl _ _, fun _ x => .inl x⟩
theorem DiskTo.then {w' w'' : World} {D D' : Disk} (h : DiskTo w w' pd m fs D) (h2 : ∀ fs', DiskAt w' pd m D fs' → DiskTo w' w'' pd m fs' D') : DiskTo w w'' pd m fs D' := by
  obtain ⟨fs', h3, h4, h5⟩ := h
  obtain ⟨fs2, h6, h7, h8⟩ := h2 fs' h3
  refine ⟨fs2, h6, h4.then h7 h5, fun k hk => ?_⟩
  rcases h8 k hk with e | e
  · exact h5 k e
  · exact .inr (Nat.le_trans h4.size e)

/-- How a change's answer is told. -/
def endRes {α : Type} : Res α → Ending
  | .ok _ => .returned (.tuple #[])
  | .lost op => crashed op

theorem change_calls {F : FuncId} {caps : Array Value} {f : Disk → Disk} {α : Type} (a : α) (h : DiskAt w pd m d fs) (hops : (f d.begin).ops = d.begin.ops)
    (hcf : ∀ w, (callFunc F caps).run Tryz.prog w = .ok (.enter F caps) w) (h0 : 0 ≤ d.ops) (h1 : d.ops < 4611686018427387000)
    (hdo : ∀ w1, DiskAt w1 pd m d.begin fs → Chg (In [pd]) w w1 → Calls Tryz.prog F caps w1 fun e w2 => e = .returned (.tuple #[]) ∧ DiskTo w1 w2 pd m fs (f d.begin)) :
    Calls Tryz.prog 85 #[.pointer (some ⟨pd, 0, none⟩), .func (.func F) #[] caps] w fun e w' => e = endRes (d.change f a).2 ∧ DiskTo w w' pd m fs (d.change f a).1 := by
  have hto : ∀ w1, w1.heap[pd]? = some (diskObj d.begin m) → Chg (In [pd]) w w1 → Calls Tryz.prog F caps w1 fun e w2 => e = .returned (.tuple #[]) ∧ DiskTo w w2 pd m fs (f d.begin) :=
    fun w1 hb hc => (hdo w1 (h.turn hb rfl hc) hc).mono (fun e w2 x => ⟨x.1, x.2.before (hc.atDisk _ _)⟩)
  cases hg : d.begin.gone with
  | false =>
    refine (change_none (Post := fun w2 => DiskTo w w2 pd m fs (f d.begin)) hcf h.blk h0 h1 hg hto).mono ?_
    rintro e w2 ⟨rfl, hp⟩
    have hs : d.change f a = (f d.begin, .ok a) := by simp [Disk.change, hg]
    rw [hs]
    exact ⟨rfl, hp⟩
  | true =>
    by_cases hk : d.keep % 2 = 0
    · refine (change_lost h.blk h0 h1 hg hk).mono ?_
      rintro e w2 ⟨rfl, hb, hc⟩
      have hs : d.change f a = (d.begin.crash, .lost (d.ops + 1)) := by
        have : d.begin.keep % 2 = 0 := hk
        show _ = (_, Res.lost d.begin.ops)
        simp [Disk.change, hg, this]
      rw [hs]
      exact ⟨rfl, fs, h.turn hb rfl hc, hc.atDisk _ _, fun _ x => .inl x⟩
    · refine (change_gone (D2 := f d.begin) (Post := fun w2 => DiskTo w w2 pd m fs (f d.begin)) (fun w2 x => ?_) hops hcf h.blk h0 h1 hg hk hto).mono ?_
      · obtain ⟨fs', x, _⟩ := x
        exact x.blk
      rintro e w2 ⟨rfl, w3, hp, hb, hc⟩
      have hs : d.change f a = ((f d.begin).crash, .lost (d.ops + 1)) := by
        have : ¬ d.begin.keep % 2 = 0 := hk
        show _ = (_, Res.lost d.begin.ops)
        simp [Disk.change, hg, this]
      rw [hs]
      exact ⟨rfl, hp.turn hb rfl hc⟩

/-- The disk's own block, then one file's, are turned. -/
theorem DiskAt.cut {l1 l2 : List FR} {r : FR} {W1 W3 : World} {v' : Value} {f' : File} {d1 : Disk} (h : DiskAt w pd m d (l1 ++ r :: l2)) (hl1 : ∀ x ∈ l1, x.name ≠ r.name)
    (hv : Own w 5 v' (f'.b.map u8)) (hvb : v'.ownBlock = r.v.ownBlock) (hb1 : W1.heap[pd]? = some (diskObj d1 m)) (hd1 : d1.files = d.files) (hc1 : Chg (In [pd]) w W1)
    (hb3 : W3.heap[r.fb]? = some (fileObj v' f'.safe)) (hc2 : Chg (In [r.fb]) W1 W3) :
    DiskTo w W3 pd m (l1 ++ r :: l2) { d1 with files := layFile r.name f' d.files } := by
  have hr := h.each r (by simp)
  have hap := h.apart
  rw [diskBlocks_mid, List.nodup_append] at hap
  have hrv : r.v.ownBlock ≠ some r.fb := fun e => hap.2.2 r.fb (by simp) r.fb (by simp [e]) rfl
  have hpv : r.v.ownBlock ≠ some pd := fun e => hap.2.2 pd (by simp) pd (by simp [e]) rfl
  have hD1 : DiskAt W1 pd m d1 (l1 ++ r :: l2) := h.turn hb1 hd1 hc1
  refine ⟨l1 ++ ⟨r.name, r.fb, v', f'⟩ :: l2, ?_, ?_, ?_⟩
  · rw [← hd1]
    refine hD1.file (b' := f'.b) (s' := f'.safe) hl1 hb3 ?_ (hc2.mono (fun k _ x => .inl (by simpa using x))) (fun k hk => .inl (hvb ▸ hk))
    · exact (hv.kept hc1 (by intro k hk; simp; rintro rfl; exact hpv (hvb ▸ hk))).kept hc2 (by intro k hk; simp; rintro rfl; exact hrv (hvb ▸ hk))
  · exact (hc1.atDisk _ _).trans (hc2.mono (fun k _ x => mem_diskBlocks.2 (.inr (.inr ⟨r, by simp, .inl (by simpa using x)⟩))))
  · intro k hk
    left
    rcases mem_diskBlocks.1 hk with e | e | ⟨y, hy, hk⟩
    · exact mem_diskBlocks.2 (.inl e)
    · exact mem_diskBlocks.2 (.inr (.inl e))
    · simp only [List.mem_append, List.mem_cons] at hy
      rcases hy with hy | rfl | hy
      · exact mem_diskBlocks.2 (.inr (.inr ⟨y, by simp [hy], hk⟩))
      · exact mem_diskBlocks.2 (.inr (.inr ⟨r, by simp, by rw [← hvb]; exact hk⟩))
      · exact mem_diskBlocks.2 (.inr (.inr ⟨y, by simp [hy], hk⟩))

theorem cut_calls {l1 l2 : List FR} {r : FR} (n : Nat) (h : DiskAt w pd m d (l1 ++ r :: l2)) (hl1 : ∀ x ∈ l1, x.name ≠ r.name) (hn : n ≤ r.f.b.length) (hfl : r.f.b.length ≤ 1073741824)
    (hu0 : 0 ≤ d.used) (hu1 : d.used ≤ 1073741824) {a1 a2 a3 : Nat} (c1 : w.cell? ⟨a1, 0, none⟩ = some (.pointer (some ⟨pd, 0, none⟩))) (c2 : w.cell? ⟨a2, 0, none⟩ = some (.pointer (some ⟨r.fb, 0, none⟩)))
    (c3 : w.cell? ⟨a3, 0, none⟩ = some (.int .i64 n)) (h1 : a1 ∉ diskBlocks pd m (l1 ++ r :: l2)) (h2 : a2 ∉ diskBlocks pd m (l1 ++ r :: l2)) (h3 : a3 ∉ diskBlocks pd m (l1 ++ r :: l2)) :
    Calls Tryz.prog 123 #[.pointer (some ⟨a1, 0, none⟩), .pointer (some ⟨a2, 0, none⟩), .pointer (some ⟨a3, 0, none⟩)] w fun e w' => e = .returned (.tuple #[]) ∧
      DiskTo w w' pd m (l1 ++ r :: l2) { d with used := d.used - (r.f.b.length - n), files := layFile r.name ⟨r.f.b.take n, min r.f.safe n⟩ d.files } := by
  have hr := h.each r (by simp)
  obtain ⟨q, cap, hv, hc1, hc2, hc3, hown⟩ := hr.2.short n (by simpa using hn)
  rw [List.length_map] at hv hc1
  have HC : Hid _ := Lib.hid (fun W1 W3 => h.cut (W1 := W1) (W3 := W3) (f' := ⟨r.f.b.take n, min r.f.safe n⟩) (v' := .slice q n cap) (d1 := { d with used := d.used - (r.f.b.length - n) }) hl1 (by simpa using hown) (by rw [hv]; cases q <;> rfl))
  have HB := Lib.hid h.blk
  have HR := Lib.hid hr.1
  have hap := h.apart
  rw [diskBlocks_mid, List.nodup_append] at hap
  have hpf : pd ≠ r.fb := (List.nodup_append.1 hap.1).2.2 pd (by simp) r.fb (by simp)
  have n1 : a1 ≠ pd := fun e => h1 (e ▸ pd_in _ _ _)
  have n2 : a2 ≠ pd := fun e => h2 (e ▸ pd_in _ _ _)
  have n3 : a3 ≠ pd := fun e => h3 (e ▸ pd_in _ _ _)
  have hrf : r.fb ∈ diskBlocks pd m (l1 ++ r :: l2) := mem_diskBlocks.2 (.inr (.inr ⟨r, by simp, .inl rfl⟩))
  have m1 : a1 ≠ r.fb := fun e => h1 (e ▸ hrf)
  have m2 : a2 ≠ r.fb := fun e => h2 (e ▸ hrf)
  have m3 : a3 ≠ r.fb := fun e => h3 (e ▸ hrf)
  have d2 : w.cell? ⟨pd, 2, none⟩ = some (.int .i64 d.used) := cell_blk h.blk 2
  have e2 : w.frozen? ⟨pd, 2, none⟩ = false := free_blk h.blk 2
  have d0 : w.cell? ⟨r.fb, 0, none⟩ = some (.slice q r.f.b.length cap) := by rw [← hv]; exact cell_blk hr.1 0
  have e0 : w.frozen? ⟨r.fb, 0, none⟩ = false := free_blk hr.1 0
  have d1 : w.cell? ⟨r.fb, 1, none⟩ = some (.int .i64 r.f.safe) := cell_blk hr.1 1
  have e1 : w.frozen? ⟨r.fb, 1, none⟩ = false := free_blk hr.1 1
  have w1 : IntKind.i64.wrap ((r.f.b.length : Int) - n) = r.f.b.length - n := by simp [IntKind.wrap, IntKind.bits, IntKind.signed]; omega
  have w2 : IntKind.i64.wrap (d.used - ((r.f.b.length : Int) - n)) = d.used - (r.f.b.length - n) := by simp [IntKind.wrap, IntKind.bits, IntKind.signed]; omega
  have hnc : (n : Int) ≤ cap := by omega
  clear h1 h2 h3 hap h hr hown hl1 hrf hc3
  go_enter Tryz.func123, Tryz.ntmps123
  go_wp2_with fail
  go_still_tail 14, (by kernel_rfl)
  change wpList _ _ _ _ _ w.drew
  go_wp2_with fail
  have k0 : Chg (In [pd]) w (w.setCell ⟨pd, 2, none⟩ (.int .i64 (d.used - (r.f.b.length - n)))).drew := ((Chg.refl _ w).setCell (by simp) _).drew
  have B1 : (w.setCell ⟨pd, 2, none⟩ (.int .i64 (d.used - (r.f.b.length - n)))).drew.heap[pd]? = some (diskObj { d with used := d.used - (r.f.b.length - n) } m) := by
    show (w.setCell _ _).heap[pd]? = _
    rw [set_blk HB.out 2]; simp [diskObj]
  generalize (w.setCell ⟨pd, 2, none⟩ (.int .i64 (d.used - (r.f.b.length - n)))).drew = W1 at k0 B1 ⊢
  replace c1 := k0.cell c1 (by simpa using n1)
  replace c2 := k0.cell c2 (by simpa using n2)
  replace c3 := k0.cell c3 (by simpa using n3)
  have R1 := k0.heap HR.out (by simpa using fun e => hpf e.symm)
  clear d0 e0 d1 e1 d2 e2 HB HR
  rw [hv] at R1
  have d0 : W1.cell? ⟨r.fb, 0, none⟩ = some (.slice q r.f.b.length cap) := cell_blk R1 0
  have e0 : W1.frozen? ⟨r.fb, 0, none⟩ = false := free_blk R1 0
  have K0 := Lib.hid k0
  have HB1 := Lib.hid B1
  clear k0 B1
  go_still_tail 9, (by kernel_rfl)
  change wpList _ _ _ _ _ W1.drew
  go_wp2_with fail
  have k1 : Chg (In [r.fb]) W1 (W1.setCell ⟨r.fb, 0, none⟩ (.slice q n cap)).drew := ((Chg.refl _ W1).setCell (by simp) _).drew
  have R2 : (W1.setCell ⟨r.fb, 0, none⟩ (.slice q n cap)).drew.heap[r.fb]? = some (fileObj (.slice q n cap) r.f.safe) := by
    show (W1.setCell _ _).heap[r.fb]? = _
    rw [set_blk R1 0]; simp [fileObj]
  generalize (W1.setCell ⟨r.fb, 0, none⟩ (.slice q n cap)).drew = W2 at k1 R2 ⊢
  replace c2 := k1.cell c2 (by simpa using m2)
  replace c3 := k1.cell c3 (by simpa using m3)
  clear d0 e0 R1
  have d1 : W2.cell? ⟨r.fb, 1, none⟩ = some (.int .i64 r.f.safe) := cell_blk R2 1
  have e1 : W2.frozen? ⟨r.fb, 1, none⟩ = false := free_blk R2 1
  have K1 := Lib.hid k1
  have HR2 := Lib.hid R2
  clear k1 R2
  go_still_tail 9, (by kernel_rfl)
  change wpList _ _ _ _ _ W2.drew
  go_wp2_with fail
  go_end0
  refine ⟨rfl, HC.out _ _ HB1.out (by first | rfl | trivial) K0.out ?_ (K1.out.trans ((Chg.refl _ W2).setCell (by simp) _).drew)⟩
  show (W2.setCell _ _).heap[r.fb]? = _
  rw [set_blk HR2.out 1]; simp [fileObj]

theorem still_calls {a1 a2 : Nat} (c1 : w.cell? ⟨a1, 0, none⟩ = some (.bool true)) :
    Calls Tryz.prog 86 #[.pointer (some ⟨a1, 0, none⟩), .pointer (some ⟨a2, 0, none⟩)] w fun e w' => e = .returned (.tuple #[]) ∧ w = w' := by
  go_enter Tryz.func86, Tryz.ntmps86
  go_wp2_with fail
  go_end0
  exact ⟨rfl, rfl⟩

theorem Own.slice {E : TypeId} {v : Value} {xs : List Value} (h : Own w E v xs) : ∃ q cap, v = .slice q xs.length cap := by
  obtain ⟨q, cap, h, _⟩ := h.short 0 (Nat.zero_le _)
  exact ⟨q, cap, h⟩

theorem safe_calls {l1 l2 : List FR} {r : FR} (h : DiskAt w pd m d (l1 ++ r :: l2)) (hl1 : ∀ x ∈ l1, x.name ≠ r.name) {a1 a2 : Nat} (c1 : w.cell? ⟨a1, 0, none⟩ = some (.bool false))
    (c2 : w.cell? ⟨a2, 0, none⟩ = some (.pointer (some ⟨r.fb, 0, none⟩))) :
    Calls Tryz.prog 86 #[.pointer (some ⟨a1, 0, none⟩), .pointer (some ⟨a2, 0, none⟩)] w fun e w' => e = .returned (.tuple #[]) ∧
      DiskTo w w' pd m (l1 ++ r :: l2) { d with files := layFile r.name ⟨r.f.b, r.f.b.length⟩ d.files } := by
  have hr := h.each r (by simp)
  have HC : Hid _ := Lib.hid (fun W3 => h.cut (W1 := w) (W3 := W3) (f' := ⟨r.f.b, r.f.b.length⟩) (v' := r.v) (d1 := d) hl1 hr.2 rfl h.blk rfl (Chg.refl _ _))
  obtain ⟨q, cap, hv⟩ := hr.2.slice
  rw [List.length_map] at hv
  have HR := Lib.hid hr.1
  have HV := Lib.hid hv
  have d0 : w.cell? ⟨r.fb, 0, none⟩ = some (.slice q r.f.b.length cap) := by rw [← hv]; exact cell_blk hr.1 0
  have d1 : w.cell? ⟨r.fb, 1, none⟩ = some (.int .i64 r.f.safe) := cell_blk hr.1 1
  have e1 : w.frozen? ⟨r.fb, 1, none⟩ = false := free_blk hr.1 1
  clear h hr hl1 hv
  go_enter Tryz.func86, Tryz.ntmps86
  go_wp2_with fail
  go_still_tail 8, (by kernel_rfl)
  change wpList _ _ _ _ _ w.drew
  go_wp2_with fail
  go_end0
  refine ⟨rfl, HC.out _ ?_ (((Chg.refl _ w).setCell (by simp) _).drew)⟩
  show (w.setCell _ _).heap[r.fb]? = _
  rw [set_blk HR.out 1]; simp [fileObj]
end
end Go.Proofs.YtgpmnicmgehmbaaGreatDoor
