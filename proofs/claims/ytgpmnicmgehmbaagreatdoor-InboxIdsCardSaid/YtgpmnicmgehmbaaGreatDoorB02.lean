/- The library's functions on bytes and texts, in these texts' words.
   What the machine's operations on bits say of Lean's own numbers.
   The signs: Plain, five, Right, Read, Join.
   The deframer's methods, walked: each does to the memory what 'Lamp.Def' says. -/
import Derived.Test.YtgpmnicmgehmbaaGreatDoorB01
import Derived.Laws.Bits

namespace Go.Proofs.YtgpmnicmgehmbaaGreatDoor
open Go.RowKit Lamp

/-- What the package-level variables hold. -/
structure Glob (w : World) : Prop where
  e0 : w.cell? ⟨0, 0, none⟩ = some (.int .u8 28)
  e1 : w.cell? ⟨0, 1, none⟩ = some (.int .u8 13)
  codes : ∀ k s, [aa, ae, ar][k]? = some s → w.cell? ⟨1, k, none⟩ = some (.string (ofL s))
  vers : ∀ k s, versions[k]? = some s → w.cell? ⟨2, k, none⟩ = some (.string (ofL s))
  most : ∃ m, w.cell? ⟨3, 0, none⟩ = some (.int .i64 m)
theorem Glob.kept {S : Nat → Prop} {w w' : World} (h : Glob w) (hc : Chg S w w') (hS : ∀ k, k < 6 → ¬ S k) : Glob w' :=
  ⟨hc.cell h.e0 (hS _ (by decide)), hc.cell h.e1 (hS _ (by decide)), fun k s hs => hc.cell (h.codes k s hs) (hS 1 (by decide)), fun k s hs => hc.cell (h.vers k s hs) (hS 2 (by decide)),
    let ⟨m, hm⟩ := h.most; ⟨m, hc.cell hm (hS _ (by decide))⟩⟩
theorem Glob.no {w w' : World} (h : Glob w) (hc : Chg No w w') : Glob w' := h.kept hc (fun _ _ x => x)
theorem Chg.no_drewN {w : World} (q : Nat) : Chg No w (w.drewN q) := (Chg.refl No w).drewN q

theorem bytesOf_nums (l : Bytes) : Lib.bytesOf (nums l) = l := by
  simp only [Lib.bytesOf, nums, List.map_map]
  conv => rhs; rw [← List.map_id l]
  apply List.map_congr_left
  intro c _
  simp
theorem toUInt8_nat (c : UInt8) : ((c.toNat : Int)).toNat.toUInt8 = c := by simp
theorem addr_add (b o i : Nat) : (⟨b, o, none⟩ : Addr).add i = ⟨b, o + i, none⟩ := by unfold Addr.add; split <;> simp_all
theorem BytesIn.cells {w : World} {a : Addr} {n : Nat} {xs : List Int} (h : Lib.BytesIn w (some a) n xs) : ∀ i, i < n → w.cell? (a.add i) = some (.int .u8 (xs.getD i 0)) := by
  intro i hi
  obtain ⟨b, o, hp, hx⟩ := h (by omega)
  cases hp
  rw [addr_add]
  exact hx i hi

section
variable {w : World} {v v2 : Value} {l l2 : Bytes}

theorem indexByte_calls (h : Bs w v l) (c : UInt8) : Calls Tryz.prog 87 #[v, .int .u8 c.toNat] w fun e w' => e = .returned (.int .i64 (Lib.indexByte l c)) ∧ w = w' := by
  obtain ⟨p, cap, rfl, h1, h2, h3, h4⟩ := h
  cases p with
  | none =>
    obtain rfl : cap = 0 := h3 rfl
    obtain rfl : l = [] := List.eq_nil_of_length_eq_zero (by omega)
    exact (Tryz.bytes_IndexByte_nil c.toNat w).mono (by rintro e w' ⟨rfl, rfl⟩; exact ⟨rfl, rfl⟩)
  | some a =>
    refine (Tryz.bytes_IndexByte_at a l.length cap (nums l) c.toNat w (length_nums l) (BytesIn.cells h4)).mono ?_
    rintro e w' ⟨rfl, rfl⟩
    rw [bytesOf_nums, toUInt8_nat]
    exact ⟨rfl, rfl⟩

theorem contains_calls (h : Bs w v l) (h2 : Bs w v2 l2) (hl : l.length < 4294967281) (h0 : 2 ≤ l2.length) (hg : Glob w) :
    Calls Tryz.prog 88 #[v, v2] w fun e w' => e = .returned (.bool (Lib.contains l l2)) ∧ Chg No w w' := by
  obtain ⟨m, hm⟩ := hg.most
  obtain ⟨p, cap, rfl, a1, a2, a3, a4⟩ := h
  obtain ⟨p2, cap2, rfl, b1, b2, b3, b4⟩ := h2
  cases p with
  | none =>
    obtain rfl : cap = 0 := a3 rfl
    obtain rfl : l = [] := List.eq_nil_of_length_eq_zero (by omega)
    refine (Tryz.bytes_Contains_nil p2 l2.length cap2 w (by omega) (fun e => by omega)).mono ?_
    rintro e w' ⟨rfl, rfl⟩
    refine ⟨?_, Chg.refl _ _⟩
    rw [show Lib.contains [] l2 = decide (l2.length = 0) from ?_]
    cases l2 with
    | nil => simp at h0
    | cons x r => simp [Lib.contains, Lib.index]
  | some a =>
    cases p2 with
    | none => have := b3 rfl; omega
    | some a2' =>
      refine (Tryz.bytes_Contains_at a a2' l.length cap l2.length cap2 (nums l) (nums l2) m w (length_nums l) (length_nums l2) (range_nums l) (range_nums l2) (BytesIn.cells a4) (BytesIn.cells b4) a1 hl (by omega) hm).mono ?_
      rintro e w' ⟨rfl, q, rfl⟩
      rw [bytesOf_nums, bytesOf_nums]
      exact ⟨rfl, Chg.no_drewN q⟩

theorem hasSuffix_calls (h : Bs w v l) (h2 : Bs w v2 l2) : Calls Tryz.prog 89 #[v, v2] w fun e w' => e = .returned (.bool (Lib.hasSuffix l l2)) ∧ w = w' := by
  obtain ⟨p, cap, rfl, a1, a2, a3, a4⟩ := h
  obtain ⟨p2, cap2, rfl, b1, b2, b3, b4⟩ := h2
  refine (Tryz.bytes_HasSuffix_all p p2 l.length cap l2.length cap2 (nums l) (nums l2) w (length_nums l) (length_nums l2) a1 (by omega) a4 b4).mono ?_
  rintro e w' ⟨rfl, rfl⟩
  rw [bytesOf_nums, bytesOf_nums]
  exact ⟨rfl, rfl⟩
theorem cutPrefix_calls {p p2 : Option Addr} {cap cap2 : Nat} (a1 : l.length ≤ cap) (a4 : Lib.BytesIn w p l.length (nums l)) (b4 : Lib.BytesIn w p2 l2.length (nums l2)) :
    Calls Tryz.prog 127 #[.slice p l.length cap, .slice p2 l2.length cap2] w fun e w' => e = .returned (.tuple #[Lib.trimPrefixV p l.length cap (nums l) (nums l2), .bool (Lib.hasPrefix l l2)]) ∧ w = w' := by
  refine (Tryz.bytes_CutPrefix_all p p2 l.length cap l2.length cap2 (nums l) (nums l2) w (length_nums l) (length_nums l2) a1 a4 b4).mono ?_
  rintro e w' ⟨rfl, rfl⟩
  rw [bytesOf_nums, bytesOf_nums]
  exact ⟨rfl, rfl⟩
theorem cutSuffix_calls {p p2 : Option Addr} {cap cap2 : Nat} (a1 : l.length ≤ cap) (a2 : l.length ≤ 140737488355328) (a4 : Lib.BytesIn w p l.length (nums l)) (b4 : Lib.BytesIn w p2 l2.length (nums l2)) :
    Calls Tryz.prog 59 #[.slice p l.length cap, .slice p2 l2.length cap2] w fun e w' => e = .returned (.tuple #[Lib.trimSuffixV p l.length cap (nums l) (nums l2), .bool (Lib.hasSuffix l l2)]) ∧ w = w' := by
  refine (Tryz.bytes_CutSuffix_all p p2 l.length cap l2.length cap2 (nums l) (nums l2) w (length_nums l) (length_nums l2) a1 (by omega) a4 b4).mono ?_
  rintro e w' ⟨rfl, rfl⟩
  rw [bytesOf_nums, bytesOf_nums]
  exact ⟨rfl, rfl⟩
end

theorem indexByte_neg (l : Bytes) (c : UInt8) : (Lib.indexByte l c < 0) ↔ l.contains c = false := by
  rw [Lib.contains_iff_indexByte]
  have := Lib.indexByte_ge l c
  simp
theorem suffix_one (l : Bytes) (c : UInt8) : Lib.hasSuffix l [c] = (l.getLast? == some c) := by
  unfold Lib.hasSuffix
  rw [Bool.eq_iff_iff]
  rw [List.isSuffixOf_iff_suffix]
  constructor
  · rintro ⟨t, rfl⟩; simp
  · intro h
    have h : l.getLast? = some c := by simpa using h
    obtain ⟨t, rfl⟩ := List.getLast?_eq_some_iff.1 h
    exact ⟨t, rfl⟩
end Go.Proofs.YtgpmnicmgehmbaaGreatDoor


namespace Go.Proofs.YtgpmnicmgehmbaaGreatDoor
open Go

theorem lt32 (x : UInt32) : x.toNat < 4294967296 := x.toNat_lt
theorem wrap_u32_nat (n : Nat) (h : n < 4294967296) : IntKind.u32.wrap (n : Int) = n := by
  simp [IntKind.wrap, IntKind.bits, IntKind.signed]; omega
theorem bits_xor (x y : UInt32) : bits .xor .u32 x.toNat y.toNat = ((x ^^^ y).toNat : Int) := by
  simp [bits, IntKind.bits]
  have := lt32 (x ^^^ y)
  rw [UInt32.toNat_xor] at this
  exact wrap_u32_nat _ this
theorem bits_and (x y : UInt32) : bits .and .u32 x.toNat y.toNat = ((x &&& y).toNat : Int) := by
  simp [bits, IntKind.bits]
  have := lt32 (x &&& y)
  rw [UInt32.toNat_and] at this
  exact wrap_u32_nat _ this
theorem neg32 (x : UInt32) : (-(x.toNat : Int)) % (4294967296 : Int) = ((0 - x : UInt32).toNat : Int) := by
  have := lt32 x
  rw [UInt32.toNat_sub]
  simp
  omega
theorem shr1 (x : UInt32) : (x.toNat : Int) / (2 : Int) = ((x >>> 1).toNat : Int) := by
  rw [UInt32.toNat_shiftRight]
  simp [Nat.shiftRight_eq_div_pow]
theorem shr8 (x : UInt32) : (x.toNat : Int) / (256 : Int) = ((x >>> 8).toNat : Int) := by
  rw [UInt32.toNat_shiftRight]
  simp [Nat.shiftRight_eq_div_pow]
theorem lt8 (x : UInt8) : x.toNat < 256 := x.toNat_lt
theorem wrap_u8_nat (n : Nat) (h : n < 256) : IntKind.u8.wrap (n : Int) = n := by
  simp [IntKind.wrap, IntKind.bits, IntKind.signed]; omega
theorem bits8_xor (x y : UInt8) : bits .xor .u8 x.toNat y.toNat = ((x ^^^ y).toNat : Int) := by
  simp [bits, IntKind.bits]
  have := lt8 (x ^^^ y)
  rw [UInt8.toNat_xor] at this
  exact wrap_u8_nat _ this
theorem low8 (x : UInt32) : (x.toNat : Int) % (256 : Int) = (x.toUInt8.toNat : Int) := by simp
theorem step32 (y : UInt32) : bits BinOp.xor IntKind.u32 ((y.toNat : Int) / 2) (bits BinOp.and IntKind.u32 3988292384 (-bits BinOp.and IntKind.u32 (y.toNat : Int) 1 % 4294967296)) =
    (((y >>> 1) ^^^ (0xEDB88320 &&& (0 - (y &&& 1)))).toNat : Int) := by
  have h1 : bits BinOp.and IntKind.u32 (y.toNat : Int) 1 = ((y &&& 1).toNat : Int) := bits_and y 1
  have h2 : (3988292384 : Int) = ((0xEDB88320 : UInt32).toNat : Int) := rfl
  rw [h1, neg32, h2, bits_and, shr1, bits_xor]

theorem not32 (x : UInt32) : bits BinOp.xor IntKind.u32 IntKind.u32.max (x.toNat : Int) = ((~~~ x).toNat : Int) := by
  have h : IntKind.u32.max = (((4294967295 : UInt32)).toNat : Int) := by decide
  rw [h, bits_xor, show (4294967295 : UInt32) = -1 from rfl, UInt32.neg_one_xor]
theorem byte32 (x : UInt32) (c : UInt8) : bits BinOp.xor IntKind.u8 ((x.toNat : Int) % 256) (c.toNat : Int) = ((x.toUInt8 ^^^ c).toNat : Int) := by
  rw [low8, bits8_xor]
theorem xorShift (r x : UInt32) : bits BinOp.xor IntKind.u32 (r.toNat : Int) ((x.toNat : Int) / 256) = ((r ^^^ (x >>> 8)).toNat : Int) := by
  rw [shr8, bits_xor]
theorem and1 (k : Int) : bits .and .i64 k 1 = k % 2 := by
  have h : (BitVec.ofInt 64 k &&& 1#64).toNat = (k % 2).toNat := by
    rw [BitVec.toNat_and]
    have h1 : (1#64).toNat = 1 := rfl
    rw [h1, Nat.and_one_is_mod, BitVec.toNat_ofInt]
    omega
  have h2 : bits .and .i64 k 1 = IntKind.i64.wrap ((BitVec.ofInt 64 k &&& 1#64).toNat : Int) := by
    have h3 : (1 : Int) = ((1#64).toNat : Int) := rfl
    unfold bits
    rfl
  rw [h2, h]
  simp [IntKind.wrap, IntKind.bits, IntKind.signed]
  omega
theorem odd_false (k : Int) (h : k % 2 = 0) : (bits .and .i64 k 1 == 1) = false := by rw [and1, h]; rfl
theorem odd_true (k : Int) (h : k % 2 ≠ 0) : (bits .and .i64 k 1 == 1) = true := by
  rw [and1]
  have : k % 2 = 1 := by omega
  rw [this]; rfl
end Go.Proofs.YtgpmnicmgehmbaaGreatDoor


namespace Go.Proofs.YtgpmnicmgehmbaaGreatDoor
open Go.RowKit Lamp
set_option maxRecDepth 100000
set_option maxHeartbeats 400000

def u8s (c : UInt8) : Value := .int .u8 (c.toNat : Int)
/-- The five signs' value. -/
def dv (d : Delims) : Value := .agg #[.int .u8 (d.field.toNat : Int), .int .u8 (d.part.toNat : Int), .int .u8 (d.again.toNat : Int), .int .u8 (d.esc.toNat : Int), .int .u8 (d.sub.toNat : Int)]

theorem bits8_or (x y : UInt8) : bits .or .u8 x.toNat y.toNat = ((x ||| y).toNat : Int) := by
  simp [bits, IntKind.bits]
  have := lt8 (x ||| y)
  rw [UInt8.toNat_or] at this
  exact wrap_u8_nat _ this

theorem results_cell_tmp_row {P : Program} {fn : Func} {p u : Tmp} {ty : TypeId} (h : fn.results = #[.cell p ty, .tmp u]) (tmps : Array Value) (w : World) (g : Nat) (t : TypeId) (cs : Array Value) (fr : Nat × Nat) (d : TypeDesc)
    (hp : tmps.getD p undef = .pointer (some ⟨g, 0, none⟩)) (hg : w.heap[g]? = some (.cells cs t fr)) (hu : P.underlying ty = some d)
    (hd : (match d with | .struct _ | .array _ _ => true | _ => false) = true) (hi : (P.info? ty).map (·.size) = some cs.size) :
    (results fn tmps).run P w = .ok (.tuple #[.agg cs, tmps.getD u undef]) w := by
  rw [results_cell_tmp h, hp]
  simp [asAddr, run_loadVar_row w g t ty cs fr d hg hu hd hi]

theorem plain_calls (w : World) : Calls Tryz.prog 169 #[] w fun e w' => e = .returned (dv Delims.plain) ∧ Chg No w w' := by
  go_enter Tryz.func169, Tryz.ntmps169
  go_wp2_with fail
  refine bodyPost_ret (results_cell_row rfl _ _ w.heap.size 110 #[.int .u8 124, .int .u8 94, .int .u8 126, .int .u8 92, .int .u8 38] (0, 0) _ rfl (heap_alloc_new _ _) Tryz.underlying110 rfl (by kernel_rfl)) rfl ⟨rfl, ?_⟩
  exact (Chg.refl No w).alloc _

theorem cells_bs {w : World} {g : Nat} {cs : Array Value} {T : TypeId} {fr : Nat × Nat} {l : Bytes} (h : w.heap[g]? = some (.cells cs T fr)) (hcs : cs = (l.map u8).toArray) (hl : l.length ≤ 140737488355328) : Bs w (.slice (some ⟨g, 0, none⟩) l.length l.length) l := by
  subst hcs
  refine ⟨_, l.length, rfl, Nat.le_refl _, hl, (fun h => by cases h), fun _ => ⟨_, 0, rfl, fun i hi => ?_⟩⟩
  rw [cell_blk h, nums_getD l _ hi]
  simp [hi, u8]

theorem five_calls (w : World) (d : Delims) : Calls Tryz.prog 170 #[dv d] w fun e w' => e = .returned (.slice (some ⟨w.heap.size + 1, 0, none⟩) 5 5) ∧ Bs w' (.slice (some ⟨w.heap.size + 1, 0, none⟩) 5 5) d.five ∧ Chg No w w' := by
  unfold dv
  go_enter Tryz.func170, Tryz.ntmps170
  go_wp2_with fail
  go_ret
  refine ⟨rfl, ?_, ((Chg.refl No w).alloc _).alloc _⟩
  have h := cells_bs (l := d.five) (heap_alloc_new (w.alloc (.cells #[.int .u8 (d.field.toNat : Int), .int .u8 (d.part.toNat : Int), .int .u8 (d.again.toNat : Int), .int .u8 (d.esc.toNat : Int), .int .u8 (d.sub.toNat : Int)] 110)) (.cells (d.five.map u8).toArray 5)) rfl (show 5 ≤ _ by decide)
  simpa [Delims.five, u8] using h

theorem right_plain (w : World) : Calls Tryz.prog 128 #[dv Delims.plain] w fun e w' => e = .returned (.bool true) ∧ Chg No w w' := by
  have HK : Hid (∀ w1, Chg No (w.alloc (.cells #[.int .u8 124, .int .u8 94, .int .u8 126, .int .u8 92, .int .u8 38] 110)).drew w1 → 
      w1.cell? ⟨w.heap.size, 0, none⟩ = some (.int .u8 124) ∧ w1.cell? ⟨w.heap.size, 1, none⟩ = some (.int .u8 94) ∧ w1.cell? ⟨w.heap.size, 2, none⟩ = some (.int .u8 126) ∧
      w1.cell? ⟨w.heap.size, 3, none⟩ = some (.int .u8 92) ∧ w1.cell? ⟨w.heap.size, 4, none⟩ = some (.int .u8 38)) := by
    intro w1 hc
    have hb := hc.heap (show (w.alloc (.cells #[.int .u8 124, .int .u8 94, .int .u8 126, .int .u8 92, .int .u8 38] 110)).drew.heap[w.heap.size]? = _ from heap_alloc_new w _) (fun x => x)
    exact ⟨cell_blk hb 0, cell_blk hb 1, cell_blk hb 2, cell_blk hb 3, cell_blk hb 4⟩
  have hdv : dv Delims.plain = .agg #[.int .u8 124, .int .u8 94, .int .u8 126, .int .u8 92, .int .u8 38] := rfl
  have HP := Lib.hid plain_calls
  rw [hdv] at HP ⊢
  go_enter Tryz.func128, Tryz.ntmps128
  go_wp2_with fail
  go_region_law ((go_simp; go_at_call 169; refine (HP.out _).mono ?_; rintro e w1 ⟨rfl, hc⟩; obtain ⟨k0, k1, k2, k3, k4⟩ := HK.out _ hc))
  all_goals
    go_wp2_with fail
    go_ret
    exact ⟨rfl, (((Chg.refl No w).alloc _).drew).trans hc⟩

/-- Is the sign at this place one that may be, and is it none of those ahead? -/
def okAt (l : Bytes) (k : Nat) : Bool := signOk (l.getD k 0) && !(l.take k).contains (l.getD k 0)
theorem allApart_nodup : ∀ l : Bytes, allApart l = true ↔ l.Nodup
  | [] => by simp [allApart]
  | c :: l => by simp [allApart, allApart_nodup l]
theorem right_iff (l : Bytes) : (l.all signOk && allApart l) = true ↔ ∀ k < l.length, okAt l k = true := by
  rw [Bool.and_eq_true, allApart_nodup, List.all_eq_true]
  simp only [okAt, Bool.and_eq_true, Bool.not_eq_true']
  constructor
  · rintro ⟨h1, h2⟩ k hk
    have hg : l.getD k 0 = l[k] := by simp [hk]
    rw [hg]
    refine ⟨h1 _ (List.getElem_mem _), ?_⟩
    rw [Bool.eq_false_iff]
    intro hc
    have hc : l[k] ∈ l.take k := by simpa using hc
    obtain ⟨j, hj, he⟩ := List.getElem_of_mem hc
    have hj' : j < k := by simp at hj; omega
    rw [List.getElem_take] at he
    exact List.pairwise_iff_getElem.1 h2 j k (by omega) hk hj' he
  · intro h
    refine ⟨fun x hx => ?_, ?_⟩
    · obtain ⟨k, hk, rfl⟩ := List.getElem_of_mem hx
      have := (h k hk).1
      rwa [show l.getD k 0 = l[k] from by simp [hk]] at this
    · refine List.pairwise_iff_getElem.2 (fun i j hi hj hij he => ?_)
      have := (h j hj).2
      rw [show l.getD j 0 = l[j] from by simp [hj]] at this
      rw [Bool.eq_false_iff] at this
      apply this
      rw [List.contains_iff_mem]
      rw [← he]
      exact List.mem_take_iff_getElem.2 ⟨i, by omega, rfl⟩
/-- A sign stands ahead of this place: its first place is less. -/
theorem index_ahead (l : Bytes) (k : Nat) (hk : k < l.length) : (Lib.indexByte l l[k] < (k : Int)) ↔ (l.take k).contains l[k] = true := by
  rcases hi : Lib.indexByte l l[k] with o | o
  · obtain ⟨h1, h2⟩ := Lib.indexByte_some (o := o) (by rw [hi]; rfl)
    constructor
    · intro h
      have ho : o < k := by simp at h; omega
      rw [List.contains_iff_mem, List.mem_take_iff_getElem]
      obtain ⟨hol, he⟩ := List.getElem?_eq_some_iff.1 h1
      exact ⟨o, by omega, he⟩
    · intro h
      rw [List.contains_iff_mem, List.mem_take_iff_getElem] at h
      obtain ⟨j, hj, he⟩ := h
      have : ¬ j < o := fun hjo => h2 j hjo (by rw [List.getElem?_eq_getElem (by omega), he])
      simp
      omega
  · exfalso
    have h0 : Lib.indexByte l l[k] = -1 := by have := Lib.indexByte_ge l l[k]; rw [hi] at this ⊢; omega
    exact Lib.indexByte_none h0 k (by simp [hk])

theorem five_ne {d : Delims} (h : d ≠ Delims.plain) {α : Type} (r1 r2 : α) :
    (if (d.field.toNat : Int) = (Delims.plain.field.toNat : Int) then if (d.part.toNat : Int) = (Delims.plain.part.toNat : Int) then if (d.again.toNat : Int) = (Delims.plain.again.toNat : Int) then
      if (d.esc.toNat : Int) = (Delims.plain.esc.toNat : Int) then if (d.sub.toNat : Int) = (Delims.plain.sub.toNat : Int) then r1 else r2 else r2 else r2 else r2 else r2) = r2 := by
  have hn : ∀ a b : UInt8, ((a.toNat : Int) = (b.toNat : Int)) ↔ a = b := fun a b => by rw [Int.ofNat_inj, UInt8.toNat_inj]
  simp only [hn]
  repeat' split
  all_goals try rfl
  exfalso
  apply h
  cases d
  simp_all

theorem signOk_int (c : UInt8) : signOk c = !(decide ((c.toNat : Int) ≤ 32) || decide (126 < (c.toNat : Int)) || (decide (97 ≤ ((c ||| 32).toNat : Int)) && decide (((c ||| 32).toNat : Int) ≤ 122)) || (decide (48 ≤ (c.toNat : Int)) && decide ((c.toNat : Int) ≤ 57))) := by
  have h : ∀ a b : UInt8, decide (a ≤ b) = decide ((a.toNat : Int) ≤ (b.toNat : Int)) := fun a b => by rw [decide_eq_decide, UInt8.le_iff_toNat_le]; omega
  have h2 : ∀ a b : UInt8, decide (a < b) = decide ((a.toNat : Int) < (b.toNat : Int)) := fun a b => by rw [decide_eq_decide, UInt8.lt_iff_toNat_lt]; omega
  unfold signOk
  simp only [h, h2, show (32 : UInt8).toNat = 32 from rfl, show (126 : UInt8).toNat = 126 from rfl, show (97 : UInt8).toNat = 97 from rfl, show (122 : UInt8).toNat = 122 from rfl, show (48 : UInt8).toNat = 48 from rfl, show (57 : UInt8).toNat = 57 from rfl]
  rfl

theorem right_other (w : World) (d : Delims) (hd : d ≠ Delims.plain) : Calls Tryz.prog 128 #[dv d] w fun e w' => e = .returned (.bool d.right) ∧ Chg No w w' := by
  have HK : Hid (∀ w1, Chg No (w.alloc (.cells #[.int .u8 (d.field.toNat : Int), .int .u8 (d.part.toNat : Int), .int .u8 (d.again.toNat : Int), .int .u8 (d.esc.toNat : Int), .int .u8 (d.sub.toNat : Int)] 110)).drew w1 → 
      w1.cell? ⟨w.heap.size, 0, none⟩ = some (.int .u8 (d.field.toNat : Int)) ∧ w1.cell? ⟨w.heap.size, 1, none⟩ = some (.int .u8 (d.part.toNat : Int)) ∧ w1.cell? ⟨w.heap.size, 2, none⟩ = some (.int .u8 (d.again.toNat : Int)) ∧
      w1.cell? ⟨w.heap.size, 3, none⟩ = some (.int .u8 (d.esc.toNat : Int)) ∧ w1.cell? ⟨w.heap.size, 4, none⟩ = some (.int .u8 (d.sub.toNat : Int))) := by
    intro w1 hc
    have hb := hc.heap (show (w.alloc (.cells #[.int .u8 (d.field.toNat : Int), .int .u8 (d.part.toNat : Int), .int .u8 (d.again.toNat : Int), .int .u8 (d.esc.toNat : Int), .int .u8 (d.sub.toNat : Int)] 110)).drew.heap[w.heap.size]? = _ from heap_alloc_new w _) (fun x => x)
    exact ⟨cell_blk hb 0, cell_blk hb 1, cell_blk hb 2, cell_blk hb 3, cell_blk hb 4⟩
  have hne := @five_ne d hd
  have HP := Lib.hid plain_calls
  have HF := Lib.hid (fun w => five_calls w d)
  unfold dv at HP HF ⊢
  have HR := Lib.hid (right_iff d.five)
  have HRD := Lib.hid (show d.right = (d.five.all signOk && allApart d.five) from rfl)
  generalize d.right = R at HRD ⊢
  go_enter Tryz.func128, Tryz.ntmps128
  go_wp2_with fail
  go_region_law ((go_simp; go_at_call 169; refine (HP.out _).mono ?_; rintro e w1 ⟨rfl, hc⟩; obtain ⟨k0, k1, k2, k3, k4⟩ := HK.out _ hc))
  all_goals
    have HC := Lib.hid ((((Chg.refl No w).alloc _).drew).trans hc)
    clear hc
    go_wp2_with fail
    refine (HF.out _).mono ?_
    rintro e w2 ⟨rfl, hbs, hc2⟩
    have HC2 := Lib.hid (HC.out.trans hc2)
    have HBS := Lib.hid hbs
    obtain ⟨p', cap', hpc, _, _, _, hby⟩ := hbs
    cases hpc
    have HBY := Lib.hid hby
    clear hc2 hby HC hne k0 k1 k2 k3 k4
    have h5 : d.five.length = 5 := rfl
    have HL := Lib.hid h5
    go_wp2_with fail
    go_loop [14] (fun i => ∃ k : Nat, k ≤ 5 ∧ i = .int .i64 k ∧ ∀ j < k, okAt d.five j = true) (fun i => 5 - (intOf i).toNat)
    case atStart => exact ⟨0, by omega, rfl, fun j hj => by omega⟩
    case round =>
      obtain ⟨k, hk, rfl, hall⟩ := hrel
      by_cases hkl : k < 5
      · obtain ⟨bb, o, hq, hcell⟩ := Bs.at HBY.out k hkl
        cases hq
        rw [Nat.zero_add] at hcell
        have hor := bits8_or d.five[k] 32
        rw [show ((32 : UInt8).toNat : Int) = 32 from rfl] at hor
        have hS : okAt d.five k = (signOk d.five[k] && !decide (Lib.indexByte d.five d.five[k] < (k : Int))) := by
          have h0 := index_ahead d.five k hkl
          unfold okAt
          rw [show d.five.getD k 0 = d.five[k] from (List.getElem_eq_getD (h := hkl) 0).symm]
          congr 2
          rw [Bool.eq_iff_iff, decide_eq_true_iff]
          exact h0.symm
        rw [signOk_int] at hS
        have HIX := Lib.hid (indexByte_calls HBS.out d.five[k])
        generalize Lib.indexByte d.five d.five[k] = ix at hS HIX
        generalize d.five[k] = c at hcell hor hS HIX
        generalize ((c ||| 32).toNat : Int) = x at hor hS
        generalize (c.toNat : Int) = y at hcell hor hS HIX
        have HS := Lib.hid hS
        have HALL := Lib.hid hall
        have hk5 : (k : Int) < 5 := by omega
        have HKL := Lib.hid hkl
        clear hS hall hkl
        have hL : decide (97 ≤ x) = false ∨ (decide (97 ≤ x) = true ∧ decide (x ≤ 122) = false) ∨ (decide (97 ≤ x) = true ∧ decide (x ≤ 122) = true) := by
          by_cases h1 : 97 ≤ x <;> by_cases h2 : x ≤ 122 <;> simp [h1, h2]
        have hM : decide (y ≤ 32) = true ∨ (decide (y ≤ 32) = false ∧ decide (126 < y) = true) ∨ (decide (y ≤ 32) = false ∧ decide (126 < y) = false) := by
          by_cases h1 : y ≤ 32 <;> by_cases h2 : 126 < y <;> simp [h1, h2]
        have hD : decide (48 ≤ y) = false ∨ (decide (48 ≤ y) = true ∧ decide (y ≤ 57) = false) ∨ (decide (48 ≤ y) = true ∧ decide (y ≤ 57) = true) := by
          by_cases h1 : 48 ≤ y <;> by_cases h2 : y ≤ 57 <;> simp [h1, h2]
        rcases hL with l1 | ⟨l1, l2⟩ | ⟨l1, l2⟩ <;> rcases hM with m1 | ⟨m1, m2⟩ | ⟨m1, m2⟩ <;> rcases hD with n1 | ⟨n1, n2⟩ | ⟨n1, n2⟩
        all_goals
          have hS' := HS.out
          try rw [l1] at hS'
          try rw [l2] at hS'
          try rw [m1] at hS'
          try rw [m2] at hS'
          try rw [n1] at hS'
          try rw [n2] at hS'
          simp only [Bool.true_or, Bool.or_true, Bool.or_false, Bool.and_true, Bool.and_false, Bool.true_and, Bool.false_and, Bool.not_true, Bool.not_false] at hS'
          have HS' := Lib.hid hS'
          clear hS'
          go_wp2_with fail
          first
            | (go_ret
               refine ⟨?_, HC2.out⟩
               have hRf : R = false := by
                 rw [HRD.out, Bool.eq_false_iff]
                 intro ht
                 have := HR.out.1 ht k (by rw [HL.out]; exact HKL.out)
                 rw [HS'.out] at this
                 cases this
               exact congrArg (fun b => Ending.returned (.bool b)) hRf.symm)
            | (refine HIX.out.mono ?_
               rintro e w3 ⟨rfl, rfl⟩
               cases hix : decide (ix < (k : Int)) with
               | true =>
                 go_wp2_with fail
                 go_ret
                 refine ⟨?_, HC2.out⟩
                 have hRf : R = false := by
                   rw [HRD.out, Bool.eq_false_iff]
                   intro ht
                   have := HR.out.1 ht k (by rw [HL.out]; exact HKL.out)
                   rw [HS'.out, hix] at this
                   cases this
                 exact congrArg (fun b => Ending.returned (.bool b)) hRf.symm
               | false =>
                 go_wp2_with fail
                 exact ⟨⟨k + 1, by omega, by go_num, fun j hj => by
                   rcases Nat.lt_or_ge j k with h | h
                   · exact HALL.out j h
                   · obtain rfl : j = k := by omega
                     rw [HS'.out, hix]; rfl⟩, by simp [intOf]; omega⟩)
      · obtain rfl : k = 5 := by omega
        have hRt : R = true := by
          rw [HRD.out]
          exact HR.out.2 (by rw [HL.out]; exact hall)
        subst hRt
        clear hall
        go_wp2_with fail
        go_ret
        exact ⟨rfl, HC2.out⟩

theorem right_calls (w : World) (d : Delims) : Calls Tryz.prog 128 #[dv d] w fun e w' => e = .returned (.bool d.right) ∧ Chg No w w' := by
  by_cases h : d = Delims.plain
  · subst h
    exact right_plain w
  · exact right_other w d h
end Go.Proofs.YtgpmnicmgehmbaaGreatDoor


namespace Go.Proofs.YtgpmnicmgehmbaaGreatDoor
open Go.RowKit Lamp

/-- Which method stands in the field 'next'. -/
def nextV (p : Nat) (inn : Bool) : Value := .func (.func (if inn then 191 else 121)) #[.pointer (some ⟨p, 0, none⟩)] #[]
/-- The deframer's own block. -/
def defObj (p : Nat) (d : Def) (vnow vfound : Value) : Obj :=
  .cells #[.int .i64 d.most, nextV p d.inn, .bool d.inn, .bool d.fin, vnow, vfound, .int .i64 d.junk, .int .i64 d.over, .int .i64 d.broken] 149 (0, 0)

theorem makeFunc_run (fn : Fn) (first cap : Array Value) (w : World) : (Instr.makeFunc fn first cap).run Tryz.prog w = .ok (.func fn first cap) w := rfl

set_option maxHeartbeats 400000 in
theorem skip_other (p : Nat) (d : Def) (vnow vfound : Value) (c : UInt8) (w : World) (hc : c ≠ 11) (hb : w.heap[p]? = some (defObj p d vnow vfound)) (h0 : 0 ≤ d.junk) (h1 : d.junk < 4611686018427387904) :
    Calls Tryz.prog 121 #[.pointer (some ⟨p, 0, none⟩), u8 c] w fun e w' => e = .returned (.tuple #[]) ∧
      w'.heap[p]? = some (defObj p { d with junk := d.junk + 1 } vnow vfound) ∧ Chg (In [p]) w w' := by
  have hc' : (((c.toNat : Int)) == 11) = false := by
    rw [beq_eq_false_iff_ne]; intro h; exact hc (UInt8.toNat_inj.1 (by rw [show (11 : UInt8).toNat = 11 from rfl]; omega))
  have c6 := cell_blk hb 6
  have f6 := free_blk hb 6
  simp only [List.getElem?_toArray, List.getElem?_cons_succ, List.getElem?_cons_zero] at c6
  unfold u8
  go_enter Tryz.func121, Tryz.ntmps121
  go_wp2
  go_end0
  refine ⟨rfl, ?_, (Chg.refl _ _).setCell (by simp) _⟩
  rw [set_blk hb]
  simp [defObj]

/-- Whichever method stands in 'next' when it is turned. -/
theorem outside_calls (p : Nat) (d : Def) (vx vnow vfound : Value) (w : World)
    (hb : w.heap[p]? = some (.cells #[.int .i64 d.most, vx, .bool d.inn, .bool d.fin, vnow, vfound, .int .i64 d.junk, .int .i64 d.over, .int .i64 d.broken] 149 (0, 0))) :
    Calls Tryz.prog 81 #[.pointer (some ⟨p, 0, none⟩)] w fun e w' => e = .returned (.tuple #[]) ∧
      w'.heap[p]? = some (defObj p d.outside (.slice none 0 0) vfound) ∧ Chg (In [p]) w w' := by
  have hmf := makeFunc_run
  have c1 := cell_blk hb 1
  have c2 := cell_blk hb 2
  have c3 := cell_blk hb 3
  have c4 := cell_blk hb 4
  have f1 := free_blk hb 1
  have f2 := free_blk hb 2
  have f3 := free_blk hb 3
  have f4 := free_blk hb 4
  simp only [List.getElem?_toArray, List.getElem?_cons_succ, List.getElem?_cons_zero] at c1 c2 c3 c4
  go_enter Tryz.func81, Tryz.ntmps81
  go_wp2
  go_end0
  refine ⟨rfl, ?_, ((((Chg.refl _ _).setCell (by simp) _).setCell (by simp) _).setCell (by simp) _).setCell (by simp) _⟩
  rw [set_blk (set_blk (set_blk (set_blk hb 2 _) 3 _) 4 _)]
  simp [defObj, nextV, Def.outside]

theorem begin_calls (p : Nat) (d : Def) (vnow vfound : Value) (w : World) (hb : w.heap[p]? = some (defObj p d vnow vfound)) :
    Calls Tryz.prog 164 #[.pointer (some ⟨p, 0, none⟩)] w fun e w' => e = .returned (.tuple #[]) ∧
      w'.heap[p]? = some (defObj p d.begin (.slice none 0 0) vfound) ∧ Chg (In [p]) w w' := by
  have hmf := makeFunc_run
  have c1 := cell_blk hb 1
  have c2 := cell_blk hb 2
  have c3 := cell_blk hb 3
  have c4 := cell_blk hb 4
  have f1 := free_blk hb 1
  have f2 := free_blk hb 2
  have f3 := free_blk hb 3
  have f4 := free_blk hb 4
  simp only [List.getElem?_toArray, List.getElem?_cons_succ, List.getElem?_cons_zero] at c1 c2 c3 c4
  go_enter Tryz.func164, Tryz.ntmps164
  go_wp2
  go_end0
  refine ⟨rfl, ?_, ((((Chg.refl _ _).setCell (by simp) _).setCell (by simp) _).setCell (by simp) _).setCell (by simp) _⟩
  rw [set_blk (set_blk (set_blk (set_blk hb 2 _) 3 _) 4 _)]
  simp [defObj, nextV, Def.begin]

theorem skip_start (p : Nat) (d : Def) (vnow vfound : Value) (w : World) (hb : w.heap[p]? = some (defObj p d vnow vfound)) :
    Calls Tryz.prog 121 #[.pointer (some ⟨p, 0, none⟩), u8 11] w fun e w' => e = .returned (.tuple #[]) ∧
      w'.heap[p]? = some (defObj p d.begin (.slice none 0 0) vfound) ∧ Chg (In [p]) w w' := by
  unfold u8
  go_enter Tryz.func121, Tryz.ntmps121
  go_wp2_with (go_at_call 164; refine (begin_calls p d vnow vfound _ hb).mono ?_; rintro e w' ⟨rfl, h1, h2⟩)
  refine bodyPost_ret (results_none rfl _ _ _) rfl ?_
  exact ⟨rfl, h1, h2⟩

theorem lay_calls (p : Nat) (d : Def) (vnow vfound : Value) (w : World) (b : Bytes) (vb : Value) (hb : w.heap[p]? = some (defObj p d vnow vfound))
    (hown : Own w 5 vnow (d.now.map u8)) (hne : vnow.ownBlock ≠ some p) (hsrc : Src w vb (b.map u8)) (hb0 : b ≠ []) (hlen : d.now.length + b.length ≤ 140737488355328)
    (ho1 : 0 ≤ d.over) (ho2 : d.over < 4611686018427387904) :
    Calls Tryz.prog 206 #[.pointer (some ⟨p, 0, none⟩), vb] w fun e w' => e = .returned (.tuple #[]) ∧ ∃ vnow',
      w'.heap[p]? = some (defObj p (d.lay b) vnow' vfound) ∧ Own w' 5 vnow' ((d.lay b).now.map u8) ∧ Chg (fun k => k = p ∨ vnow.ownBlock = some k) w w' ∧
      (vnow'.ownBlock = none ∨ vnow'.ownBlock = vnow.ownBlock ∨ vnow'.ownBlock = some w.heap.size) := by
  have hp := lt_of_heap hb
  have c4 := cell_blk hb 4
  simp only [List.getElem?_toArray, List.getElem?_cons_succ, List.getElem?_cons_zero] at c4
  go_enter Tryz.func206, Tryz.ntmps206
  go_wp2_with (at_builtin; refine wpList_appB rfl _ _ rfl vnow d.now rfl hown vb b rfl hsrc hb0 hlen ?_; intro g cap w1 hown1 hchg1 hblk1 hcap; have hb1 := hchg1.heap hb hne; clear c4; have c4 := cell_blk hb1 4; have f4 := free_blk hb1 4; simp only [List.getElem?_toArray, List.getElem?_cons_succ, List.getElem?_cons_zero] at c4)
  have hgp : g ≠ p := by
    rintro rfl
    rcases hblk1 with h | h
    · exact hne h
    · omega
  have hb2 := set_blk hb1 4 (.slice (some ⟨g, 0, none⟩) (d.now.length + b.length) cap)
  have hown2 : Own (w1.setCell ⟨p, 4, none⟩ (.slice (some ⟨g, 0, none⟩) (d.now.length + b.length) cap)) 5 (.slice (some ⟨g, 0, none⟩) (d.now.length + b.length) cap) ((d.now ++ b).map u8) :=
    hown1.kept (S := In [p]) ((Chg.refl _ _).setCell (by simp) _) (by intro k hk; simp [Value.ownBlock] at hk; subst hk; simpa using hgp)
  have hchg2 : Chg (fun k => k = p ∨ vnow.ownBlock = some k) w (w1.setCell ⟨p, 4, none⟩ (.slice (some ⟨g, 0, none⟩) (d.now.length + b.length) cap)) :=
    (hchg1.mono (fun _ _ h => .inr h)).setCell (.inl (.inl rfl)) _
  have hsz : w.heap.size ≤ (w1.setCell ⟨p, 4, none⟩ (.slice (some ⟨g, 0, none⟩) (d.now.length + b.length) cap)).heap.size := hchg2.size
  generalize w1.setCell ⟨p, 4, none⟩ (.slice (some ⟨g, 0, none⟩) (d.now.length + b.length) cap) = w2 at hb2 hown2 hchg2 hsz ⊢
  clear c4 f4 hb1 hown1 hchg1
  have c0 := cell_blk hb2 0
  have c4 := cell_blk hb2 4
  have c7 := cell_blk hb2 7
  have f7 := free_blk hb2 7
  simp only [List.getElem?_toArray, List.getElem?_cons_succ, List.getElem?_cons_zero, List.setIfInBounds_toArray, List.set_cons_succ, List.set_cons_zero] at c0 c4 c7
  by_cases hm : d.most < (d.now.length : Int) + (b.length : Int)
  · have hm' : decide (d.most < (d.now.length : Int) + (b.length : Int)) = true := by simpa using hm
    go_quiet (fail)
    go_wp2_with fail
    have hb3 := set_blk (w := w2.drewN nq) hb2 7 (.int .i64 (d.over + 1))
    refine (outside_calls p { d with now := d.now ++ b, over := d.over + 1 } _ (.slice (some ⟨g, 0, none⟩) (d.now.length + b.length) cap) vfound _ (by rw [hb3]; simp; rfl)).mono ?_
    rintro e w3 ⟨rfl, hb4, hc4⟩
    go_wp2_with fail
    go_end0
    refine ⟨rfl, .slice none 0 0, ?_, ?_, ?_, .inl rfl⟩
    · rw [hb4, Def.lay, if_pos (by simpa using hm)]
    · rw [Def.lay, if_pos (by simpa using hm)]
      exact Own.nil _ _
    · exact (((hchg2.drewN nq).setCell (p := ⟨p, 7, none⟩) (.inl (.inl rfl)) _)).then hc4 (by intro i hi; simp at hi; exact .inl (.inl hi))
  · have hm' : decide (d.most < (d.now.length : Int) + (b.length : Int)) = false := by simpa using hm
    go_quiet (fail)
    go_wp2_with fail
    go_end0
    refine ⟨rfl, .slice (some ⟨g, 0, none⟩) (d.now.length + b.length) cap, ?_, ?_, hchg2.drewN nq, ?_⟩
    · rw [Def.lay, if_neg (by simpa using hm)]
      rw [show (w2.drewN nq).heap = w2.heap from rfl, hb2]
      simp [defObj, nextV]
    · rw [Def.lay, if_neg (by simpa using hm)]
      exact hown2
    · exact .inr (hblk1.imp (fun h => h.symm) (fun h => by rw [h]; rfl))

/-- A deframer in memory: its block, the bytes of the frame at hand, the frames that were found. -/
structure DefAt (w : World) (B p : Nat) (d : Def) (vnow vfound : Value) (rows : List (Value × Bytes)) : Prop where
  blk : w.heap[p]? = some (defObj p d vnow vfound)
  now : Own w 5 vnow (d.now.map u8)
  found : Own w 22 vfound (rows.map (·.1))
  told : d.found = rows.map (·.2)
  each : ∀ r ∈ rows, Bs w r.1 r.2 ∧ ∀ k, r.1.ownBlock = some k → B ≤ k ∧ k ≠ p ∧ vnow.ownBlock ≠ some k ∧ vfound.ownBlock ≠ some k ∧ k < w.heap.size
  np : vnow.ownBlock ≠ some p
  fp : vfound.ownBlock ≠ some p
  nf : ∀ k, vnow.ownBlock = some k → vfound.ownBlock ≠ some k

theorem Bs.lt {w : World} {v : Value} {l : Bytes} (h : Bs w v l) (hl : l ≠ []) {k : Nat} (hk : v.ownBlock = some k) : k < w.heap.size := by
  obtain ⟨p, cap, rfl, h1, h2, h3, h4⟩ := h
  obtain ⟨b, o, rfl, hx⟩ := h4 (List.length_pos_iff.2 hl)
  simp [Value.ownBlock] at hk
  subst hk
  exact World.block_lt_of_cell? w _ (hx 0 (List.length_pos_iff.2 hl))

/-- What turns the frame at hand alone. -/
theorem DefAt.turn {w w' : World} {B p : Nat} {d d' : Def} {vnow vnow' vfound : Value} {rows : List (Value × Bytes)} (h : DefAt w B p d vnow vfound rows)
    (hb : w'.heap[p]? = some (defObj p d' vnow' vfound)) (hf : d'.found = d.found) (hn : Own w' 5 vnow' (d'.now.map u8)) (hc : Chg (fun k => k = p ∨ vnow.ownBlock = some k) w w')
    (hk : vnow'.ownBlock = none ∨ vnow'.ownBlock = vnow.ownBlock ∨ ∃ n, vnow'.ownBlock = some n ∧ w.heap.size ≤ n) : DefAt w' B p d' vnow' vfound rows := by
  have hp := lt_of_heap h.blk
  refine ⟨hb, hn, h.found.kept hc ?_, hf.trans h.told, fun r hr => ⟨(h.each r hr).1.chg hc ?_, fun k hk' => ?_⟩, ?_, h.fp, ?_⟩
  · rintro k hk (rfl | hk2)
    · exact h.fp hk
    · exact h.nf k hk2 hk
  · rintro k hk' (rfl | hk2)
    · exact ((h.each r hr).2 _ hk').2.1 rfl
    · exact ((h.each r hr).2 k hk').2.2.1 hk2
  · obtain ⟨h1, h2, h3, h4, h5⟩ := (h.each r hr).2 k hk'
    refine ⟨h1, h2, ?_, h4, Nat.lt_of_lt_of_le h5 hc.size⟩
    rcases hk with hk | hk | ⟨n, hk, hn⟩
    · rw [hk]; simp
    · rw [hk]; exact h3
    · rw [hk]; simp; omega
  · rcases hk with hk | hk | ⟨n, hk, hn⟩
    · rw [hk]; simp
    · rw [hk]; exact h.np
    · rw [hk]; simp; omega
  · intro k hk'
    rcases hk with hk | hk | ⟨n, hk, hn⟩
    · rw [hk] at hk'; simp at hk'
    · rw [hk] at hk'; exact h.nf k hk'
    · rw [hk] at hk'; simp at hk'; subst hk'
      intro hf
      have := h.found.lt hf
      omega

theorem eqb {c : UInt8} {n : Nat} (hn : n < 256) (h : c = UInt8.ofNat n) : (((c.toNat : Int)) == (n : Int)) = true := by
  subst h
  simp [Nat.mod_eq_of_lt hn]
theorem neb {c : UInt8} {n : Nat} (hn : n < 256) (h : c ≠ UInt8.ofNat n) : (((c.toNat : Int)) == (n : Int)) = false := by
  rw [beq_eq_false_iff_ne]
  intro h'
  refine h (UInt8.toNat_inj.1 ?_)
  simp [Nat.mod_eq_of_lt hn]
  omega

/-- What 'take' does to a deframer in memory. -/
def Took (w : World) (B p : Nat) (d' : Def) (vnow vfound : Value) (e : Ending) (w' : World) : Prop :=
  e = .returned (.tuple #[]) ∧ ∃ vnow' vfound' rows', DefAt w' B p d' vnow' vfound' rows' ∧ Chg (fun k => k = p ∨ vnow.ownBlock = some k ∨ vfound.ownBlock = some k) w w' ∧
    (∀ k, vnow'.ownBlock = some k → vnow.ownBlock = some k ∨ w.heap.size ≤ k) ∧ (∀ k, vfound'.ownBlock = some k → vfound.ownBlock = some k ∨ w.heap.size ≤ k)

section
variable {w : World} {B p : Nat} {d : Def} {vnow vfound : Value} {rows : List (Value × Bytes)} {c : UInt8}

theorem take_start (h : DefAt w B p d vnow vfound rows) (hok : d.Ok 4611686018427387000) (hc : c = 11) :
    Calls Tryz.prog 191 #[.pointer (some ⟨p, 0, none⟩), u8 c] w (Took w B p (d.take c) vnow vfound) := by
  subst hc
  have hb := h.blk
  have hj0 := hok.b0
  have hj1 := hok.b1
  have c8 := cell_blk hb 8
  have f8 := free_blk hb 8
  simp only [List.getElem?_toArray, List.getElem?_cons_succ, List.getElem?_cons_zero] at c8
  unfold u8
  go_enter Tryz.func191, Tryz.ntmps191
  go_wp2_with fail
  have hb1 := set_blk hb 8 (.int .i64 (d.broken + 1))
  refine (begin_calls p { d with broken := d.broken + 1 } vnow vfound _ (by rw [hb1]; rfl)).mono ?_
  rintro e w1 ⟨rfl, hb2, hc2⟩
  go_wp2_with fail
  go_end0
  have hchg : Chg (fun k => k = p ∨ vnow.ownBlock = some k) w w1 := (((Chg.refl _ w).setCell (p := ⟨p, 8, none⟩) (.inl (.inl rfl)) (.int .i64 (d.broken + 1)))).then hc2 (by intro i hi; simp at hi; exact .inl (.inl hi))
  have hd : d.take 11 = ({ d with broken := d.broken + 1 } : Def).begin := by simp [Def.take]
  refine ⟨rfl, .slice none 0 0, vfound, rows, ?_, hchg.mono (fun k _ hk => hk.elim .inl (fun x => .inr (.inl x))), fun k hk => by simp [Value.ownBlock] at hk, fun k hk => .inl hk⟩
  rw [hd]
  exact h.turn hb2 rfl (Own.nil _ _) hchg (.inl rfl)

theorem take_end (h : DefAt w B p d vnow vfound rows) (hc : c = 28) (he : d.fin = false) :
    Calls Tryz.prog 191 #[.pointer (some ⟨p, 0, none⟩), u8 c] w (Took w B p (d.take c) vnow vfound) := by
  subst hc
  have hb := h.blk
  have c3 := cell_blk hb 3
  have f3 := free_blk hb 3
  simp only [List.getElem?_toArray, List.getElem?_cons_succ, List.getElem?_cons_zero] at c3
  rw [he] at c3
  unfold u8
  go_enter Tryz.func191, Tryz.ntmps191
  go_wp2_with fail
  go_end0
  have hb1 := set_blk hb 3 (.bool true)
  have hchg : Chg (fun k => k = p ∨ vnow.ownBlock = some k) w (w.setCell ⟨p, 3, none⟩ (.bool true)) := (Chg.refl _ w).setCell (.inl (.inl rfl)) _
  have hd : d.take 28 = { d with fin := true } := by simp [Def.take, he]
  refine ⟨rfl, vnow, vfound, rows, ?_, hchg.mono (fun k _ hk => hk.elim .inl (fun x => .inr (.inl x))), fun k hk => .inl hk, fun k hk => .inl hk⟩
  rw [hd]
  refine h.turn (by rw [hb1]; simp [defObj, nextV]) rfl (h.now.kept (S := In [p]) ((Chg.refl _ _).setCell (by simp) _) (by intro k hk; simp; rintro rfl; exact h.np hk)) hchg (.inr (.inl rfl))

theorem took_of_lay {d1 : Def} {b : Bytes} {vnow1 : Value} {w1 w2 : World} (h1 : DefAt w1 B p d1 vnow vfound rows)
    (hc1 : Chg (fun k => k = p ∨ vnow.ownBlock = some k) w w1)
    (hb : w2.heap[p]? = some (defObj p (d1.lay b) vnow1 vfound)) (hn : Own w2 5 vnow1 ((d1.lay b).now.map u8)) (hc : Chg (fun k => k = p ∨ vnow.ownBlock = some k) w1 w2)
    (hk : vnow1.ownBlock = none ∨ vnow1.ownBlock = vnow.ownBlock ∨ vnow1.ownBlock = some w1.heap.size) (hd : d.take c = d1.lay b) : Took w B p (d.take c) vnow vfound (.returned (.tuple #[])) w2 := by
  have hf : (d1.lay b).found = d1.found := by unfold Def.lay; split <;> rfl
  refine ⟨rfl, vnow1, vfound, rows, ?_, (hc1.trans hc).mono (fun k _ hk => hk.elim .inl (fun x => .inr (.inl x))), fun k hk' => ?_, fun k hk => .inl hk⟩
  · rw [hd]
    exact h1.turn hb hf hn hc (hk.imp id (Or.imp id fun h => ⟨_, h, Nat.le_refl _⟩))
  · rcases hk with hk | hk | hk
    · rw [hk] at hk'; cases hk'
    · rw [hk] at hk'; exact .inl hk'
    · rw [hk] at hk'; simp at hk'; subst hk'; exact .inr hc1.size

theorem DefAt.alloc (h : DefAt w B p d vnow vfound rows) (o : Obj) : DefAt (w.alloc o) B p d vnow vfound rows :=
  h.turn ((Below.heap_alloc _ _ _ (lt_of_heap h.blk)).trans h.blk) rfl (h.now.kept (S := No) ((Chg.refl _ _).alloc _) (fun _ _ x => x)) ((Chg.refl _ _).alloc _) (.inr (.inl rfl))

theorem take_plain (h : DefAt w B p d vnow vfound rows) (hok : d.Ok 4611686018427387000) (h1 : c ≠ 11) (h2 : c ≠ 28) (he : d.fin = false) :
    Calls Tryz.prog 191 #[.pointer (some ⟨p, 0, none⟩), u8 c] w (Took w B p (d.take c) vnow vfound) := by
  have hb := h.blk
  have c3 := cell_blk hb 3
  simp only [List.getElem?_toArray, List.getElem?_cons_succ, List.getElem?_cons_zero] at c3
  rw [he] at c3
  have e11 : ((c.toNat : Int) == 11) = false := neb (n := 11) (by decide) h1
  have e28 : ((c.toNat : Int) == 28) = false := neb (n := 28) (by decide) h2
  have ha := h.alloc (.cells ([c].map u8).toArray 5)
  have hs := src_lit w [c] 5
  have hd : d.take c = d.lay [c] := by simp [Def.take, h1, h2, he]
  have hm := hok.now
  have hm2 := hok.m2
  have hcon := fun w' => lay_calls p d vnow vfound w' [c] (.slice (some ⟨w.heap.size, 0, none⟩) 1 1)
  have HC := Lib.hid hcon
  clear hcon
  have HS := Lib.hid hs
  clear hs
  have HD := Lib.hid hd
  clear hd
  unfold u8
  go_enter Tryz.func191, Tryz.ntmps191
  go_wp2_with fail
  refine (HC.out _ ha.blk ha.now ha.np HS.out (by simp) (by simp; omega) hok.o0 (by have := hok.o1; omega)).mono ?_
  rintro e w1 ⟨rfl, vnow1, hb1, hn1, hc1, hk1⟩
  go_wp2_with fail
  go_end0
  exact took_of_lay ha ((Chg.refl _ _).alloc _) hb1 hn1 hc1 hk1 HD.out

theorem take_end2 (h : DefAt w B p d vnow vfound rows) (hok : d.Ok 4611686018427387000) (hc : c = 28) (he : d.fin = true) :
    Calls Tryz.prog 191 #[.pointer (some ⟨p, 0, none⟩), u8 c] w (Took w B p (d.take c) vnow vfound) := by
  subst hc
  have hb := h.blk
  have c3 := cell_blk hb 3
  simp only [List.getElem?_toArray, List.getElem?_cons_succ, List.getElem?_cons_zero] at c3
  rw [he] at c3
  have ha := h.alloc (.cells ([(28 : UInt8)].map u8).toArray 5)
  have hs := src_lit w [28] 5
  have hd : d.take 28 = d.lay [28] := by simp [Def.take, he]
  have hm := hok.now
  have hm2 := hok.m2
  have HC := Lib.hid (fun w' => lay_calls p d vnow vfound w' [28] (.slice (some ⟨w.heap.size, 0, none⟩) 1 1))
  have HS := Lib.hid hs
  clear hs
  have HD := Lib.hid hd
  clear hd
  unfold u8
  go_enter Tryz.func191, Tryz.ntmps191
  go_wp2_with fail
  refine (HC.out _ ha.blk ha.now ha.np HS.out (by simp) (by simp; omega) hok.o0 (by have := hok.o1; omega)).mono ?_
  rintro e w1 ⟨rfl, vnow1, hb1, hn1, hc1, hk1⟩
  go_wp2_with fail
  go_end0
  exact took_of_lay ha ((Chg.refl _ _).alloc _) hb1 hn1 hc1 hk1 HD.out

theorem take_esc (h : DefAt w B p d vnow vfound rows) (hok : d.Ok 4611686018427387000) (h1 : c ≠ 11) (h2 : c ≠ 28) (h3 : c ≠ 13) (he : d.fin = true) :
    Calls Tryz.prog 191 #[.pointer (some ⟨p, 0, none⟩), u8 c] w (Took w B p (d.take c) vnow vfound) := by
  have hb := h.blk
  have c3 := cell_blk hb 3
  have f3 := free_blk hb 3
  simp only [List.getElem?_toArray, List.getElem?_cons_succ, List.getElem?_cons_zero] at c3
  rw [he] at c3
  have e11 : ((c.toNat : Int) == 11) = false := neb (n := 11) (by decide) h1
  have e28 : ((c.toNat : Int) == 28) = false := neb (n := 28) (by decide) h2
  have e13 : ((c.toNat : Int) == 13) = false := neb (n := 13) (by decide) h3
  have hchg0 : Chg (fun k => k = p ∨ vnow.ownBlock = some k) w (w.setCell ⟨p, 3, none⟩ (.bool false)) := (Chg.refl _ w).setCell (.inl (.inl rfl)) _
  have h0 : DefAt (w.setCell ⟨p, 3, none⟩ (.bool false)) B p { d with fin := false } vnow vfound rows :=
    h.turn (by rw [set_blk hb 3 (.bool false)]; simp [defObj, nextV]) rfl (h.now.kept (S := In [p]) ((Chg.refl _ _).setCell (by simp) _) (by intro k hk; simp; rintro rfl; exact h.np hk)) hchg0 (.inr (.inl rfl))
  have ha := h0.alloc (.cells ([28, c].map u8).toArray 5)
  have hs := src_lit (w.setCell ⟨p, 3, none⟩ (.bool false)) [28, c] 5
  have hz : (w.setCell ⟨p, 3, none⟩ (.bool false)).heap.size = w.heap.size := by simp [World.setCell]
  rw [hz] at hs
  have hd : d.take c = ({ d with fin := false } : Def).lay [28, c] := by simp [Def.take, h1, h2, h3, he]
  have hm := hok.now
  have hm2 := hok.m2
  have HC := Lib.hid (fun w' => lay_calls p { d with fin := false } vnow vfound w' [28, c] (.slice (some ⟨w.heap.size, 0, none⟩) 2 2))
  have HS := Lib.hid hs
  clear hs hz
  have HD := Lib.hid hd
  clear hd
  unfold u8
  go_enter Tryz.func191, Tryz.ntmps191
  go_wp2_with fail
  refine (HC.out _ ha.blk ha.now ha.np HS.out (by simp) (by simp; omega) hok.o0 (by have := hok.o1; omega)).mono ?_
  rintro e w1 ⟨rfl, vnow1, hb1, hn1, hc1, hk1⟩
  go_wp2_with fail
  go_end0
  exact took_of_lay ha (hchg0.alloc _) hb1 hn1 hc1 hk1 HD.out

theorem found_done {w1 w3 w4 : World} {o : Obj} {v1 vf : Value} {g3 B1 : Nat} (h : DefAt w B p d vnow vfound rows) (he : d.fin = true) (hB : B ≤ w.heap.size) (hc1 : Chg No w w1) (hnew : New B1 w1 v1 d.now) (hB1 : w.heap.size ≤ B1)
    (hown3 : Own w3 22 vf (rows.map (·.1) ++ [v1])) (hchg3 : Chg (fun k => vfound.ownBlock = some k) (w1.alloc o) w3) (hblk : vfound.ownBlock = some g3 ∨ g3 = (w1.alloc o).heap.size) (hvf : vf.ownBlock = some g3)
    (hb4 : w4.heap[p]? = some (defObj p ({ d with found := d.found ++ [d.now] } : Def).outside (.slice none 0 0) vf)) (hc4 : Chg (In [p]) (w3.setCell ⟨p, 5, none⟩ vf) w4) : Took w B p (d.take 13) vnow vfound (.returned (.tuple #[])) w4 := by
  have hp := lt_of_heap h.blk
  have hs1 := hc1.size
  have hsa : (w1.alloc o).heap.size = w1.heap.size + 1 := by simp
  have hg3 : g3 ≠ p := by
    rintro rfl
    rcases hblk with hx | hx
    · exact h.fp hx
    · omega
  have hchg34 : Chg (In [p]) w3 w4 := ((Chg.refl _ w3).setCell (p := ⟨p, 5, none⟩) (.inl (by simp)) vf).trans hc4
  have hchg : Chg (fun k => k = p ∨ vfound.ownBlock = some k) w w4 :=
    ((hc1.mono (fun _ _ x => x.elim)).alloc o |>.trans (hchg3.mono (fun _ _ x => .inr x)) |>.trans (hchg34.mono (fun k _ x => by simp at x; exact .inl x)))
  have hchg1 : Chg (fun k => k = p ∨ vfound.ownBlock = some k) w1 w4 :=
    (((Chg.refl _ w1).alloc o).trans (hchg3.mono (fun _ _ x => .inr x))).trans (hchg34.mono (fun k _ x => by simp at x; exact .inl x))
  refine ⟨rfl, .slice none 0 0, vf, rows ++ [(v1, d.now)], ?_, hchg.mono (fun k _ x => x.elim .inl (fun y => .inr (.inr y))), fun k hk => by simp [Value.ownBlock] at hk, ?_⟩
  · have hd : d.take 13 = ({ d with found := d.found ++ [d.now] } : Def).outside := by simp [Def.take, he]
    rw [hd]
    refine ⟨hb4, Own.nil _ _, ?_, ?_, ?_, by simp [Value.ownBlock], by rw [hvf]; simpa using hg3, fun k hk => by simp [Value.ownBlock] at hk⟩
    · rw [List.map_append]
      exact hown3.kept hchg34 (by intro k hk; rw [hvf] at hk; cases hk; simpa using hg3)
    · simp [Def.outside, h.told]
    · intro r hr
      simp only [List.mem_append, List.mem_singleton] at hr
      rcases hr with hr | rfl
      · obtain ⟨hbs, hk⟩ := h.each r hr
        refine ⟨hbs.chg hchg (fun k hk' => ?_), fun k hk' => ?_⟩
        · obtain ⟨_, h2, _, h4, _⟩ := hk k hk'
          rintro (x | x)
          · exact h2 x
          · exact h4 x
        · obtain ⟨h1, h2, h3, h4, h5⟩ := hk k hk'
          refine ⟨h1, h2, by simp [Value.ownBlock], ?_, Nat.lt_of_lt_of_le h5 hchg.size⟩
          rw [hvf]
          rintro ⟨rfl⟩
          rcases hblk with hx | hx
          · exact h4 hx
          · omega
      · have hlt : ∀ k, v1.ownBlock = some k → k < w1.heap.size := fun k hk => hnew.own.lt hk
        refine ⟨hnew.bs.chg hchg1 (fun k hk' => ?_), fun k hk' => ?_⟩
        · have := hnew.new k hk'
          rintro (x | x)
          · omega
          · have := h.found.lt x; omega
        · have h1 := hnew.new k hk'
          have h2 := hlt k hk'
          refine ⟨by omega, by omega, by simp [Value.ownBlock], ?_, Nat.lt_of_lt_of_le h2 hchg1.size⟩
          rw [hvf]
          rintro ⟨rfl⟩
          rcases hblk with hx | hx
          · have := h.found.lt hx; omega
          · omega
  · intro k hk
    rw [hvf] at hk
    cases hk
    rcases hblk with hx | hx
    · exact .inl hx
    · right; omega

set_option maxRecDepth 100000 in
theorem take_found (hlen : ((rows.map (·.1)).length + 1) * 24 ≤ 140737488355328) (hB : B ≤ w.heap.size) (h : DefAt w B p d vnow vfound rows) (hok : d.Ok 4611686018427387000) (hc : c = 13) (he : d.fin = true) :
    Calls Tryz.prog 191 #[.pointer (some ⟨p, 0, none⟩), u8 c] w (Took w B p (d.take c) vnow vfound) := by
  subst hc
  have hb := h.blk
  have c3 := cell_blk hb 3
  have c4 := cell_blk hb 4
  have c5 := cell_blk hb 5
  have f5 := free_blk hb 5
  simp only [List.getElem?_toArray, List.getElem?_cons_succ, List.getElem?_cons_zero] at c3 c4 c5
  rw [he] at c3
  unfold u8
  go_enter Tryz.func191, Tryz.ntmps191
  go_wp2_with fail
  have hp := lt_of_heap hb
  have hm := hok.now
  have hm2 := hok.m2
  have hBs := own_bytes h.now (by omega)
  have HN : ∀ W : World, W.heap = w.heap → Bs W vnow d.now := by
    intro W hW
    obtain ⟨q, cap, rfl, h1, h2, h3, h4⟩ := hBs
    exact ⟨q, cap, rfl, h1, h2, h3, fun hn => by obtain ⟨x, y, hx, hy⟩ := h4 hn; exact ⟨x, y, hx, fun i hi => by rw [← hy i hi]; simp [World.cell?, hW]⟩⟩
  have HO : ∀ W w1 : World, W.heap = w.heap → Below W.heap.size W w1 → ∀ o, Own (w1.alloc o) 22 vfound (rows.map (·.1)) := by
    intro W w1 hW hbel o
    have h0 : Own W 22 vfound (rows.map (·.1)) := by
      refine ⟨h.found.1, ?_⟩
      rw [hW]
      exact h.found.2
    exact h0.kept (S := No) ((Chg.of_below hbel).alloc o) (fun _ _ x => x)
  go_region_law ((first
      | (refine step_wp rfl ?_; refine wp_appR _ _ rfl vfound (rows.map (·.1)) rfl ?o1 _ [.slice q1 d.now.length cap1] rfl ?o2 ?o3 (by simp) ?o4 ?_; (case o1 => exact HO w.drew _ rfl hbel _); (case o2 => exact Src.one _ _ _); (case o3 => (intro u hu; simp at hu; subst hu; exact hnew.bs.one)); (case o4 => exact hlen); intro g3 cap3 w3 hown3 hchg3 hblk3 hcap3; have k5 := hchg3.cell (cell_al c5' _) h.fp; have f5' := hchg3.free (cell_al c5' _) (free_al c5' f5' _) h.fp)
      | (go_simp; go_at_call 60; refine (clone_calls _ vnow d.now ?cl).mono ?_; (case cl => exact HN _ rfl); rintro e w1 ⟨q1, cap1, rfl, hnew, hbel⟩; have c5' := (Chg.of_below hbel).cell (a := ⟨p, 5, none⟩) c5 (fun x => x); have f5' := (Chg.of_below hbel).free (a := ⟨p, 5, none⟩) c5 f5 (fun x => x); have k5' := fun o => cell_al c5' o)))
  all_goals
    have hb3 : w3.heap[p]? = some (defObj p d vnow vfound) := hchg3.heap ((Below.heap_alloc _ _ _ (Nat.lt_of_lt_of_le hp hbel.size)).trans ((hbel.block p hp).trans hb)) h.fp
    have hb4 := set_blk hb3 5 (.slice (some ⟨g3, 0, none⟩) (rows.length + 1) cap3)
    go_wp2_with fail
    refine (outside_calls p { d with found := d.found ++ [d.now] } _ vnow (.slice (some ⟨g3, 0, none⟩) (rows.length + 1) cap3) _ (by rw [hb4]; simp; rfl)).mono ?_
    rintro e w4 ⟨rfl, hb5, hc5⟩
    go_wp2_with fail
    go_end0
    have hbel' : Chg No w w1 := ⟨hbel.os, hbel.tape, hbel.output, hbel.size, fun k hk _ => hbel.block k hk⟩
    exact found_done h he hB hbel' hnew (Nat.le_refl _) (by simpa using hown3) hchg3 hblk3 rfl hb5 hc5
end
end Go.Proofs.YtgpmnicmgehmbaaGreatDoor
