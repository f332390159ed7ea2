/- What a row's list of variables gives: Glob.
   A world for InboxNone's witness.
   InboxTakes: answers of an inbox that are taken whenever one likes are those that are taken at the end: the row and its tied card. -/
import Derived.Test.YtgpmnicmgehmbaaGreatDoorT01
import Derived.Test.YtgpmnicmgehmbaaGreatDoorCards
import Derived.Test.YtgpmnicmgehmbaaGreatDoorTie
import Derived.WalkKit
import Derived.ProofKit
import Derived.OpenShut
import Derived.Deep.DeepHandedRow
import Derived.Lib.LaidTab
import Derived.LaidSub
import Derived.SevenTiedAt

namespace Go.Proofs.YtgpmnicmgehmbaaGreatDoor
open Go.RowKit Lamp Go.ChangeShapes Go.WideShapes Go.ChangeAt

theorem cells_of_texts {H : Type} {enc : TypeId × Value → H} {P : Program} {w : World} {base : Nat} {sp : Nat → Bool} {held : Bool} {fuel : Nat} {t e : TypeId} {n : Nat} {cs : List Value} {zs : List Bytes} {p : List MemPlace}
    (ht : P.underlying t = some (.array n e)) (he : P.underlying e = some .string) (hce : P.cellsOf e = 1) (hct : P.cellsOf t = n)
    (h : DataW.trod enc P w base sp held fuel t cs = some (.agg (zs.map fun s => .lit (.string s)), p)) : cs = zs.map fun s => Value.string (ofL s) := by
  cases fuel with
  | zero => simp [DataW.trod] at h
  | succ fuel =>
    simp only [DataW.trod, ht, hce, hct, Nat.mul_one] at h
    split at h
    · rename_i hl
      obtain ⟨xs, hm, hx⟩ := Option.map_eq_some_iff.1 h
      have hxs : xs.map (·.1) = zs.map fun s => (DataW.lit (.string s) : DataW H) := by
        have := congrArg Prod.fst hx
        simpa using this
      have hxl : xs.length = n := by simpa using Lib.mapM_length hm
      have hzl : zs.length = n := by
        have := congrArg List.length hxs
        simp at this
        omega
      apply List.ext_getElem?
      intro i
      by_cases hi : i < n
      · obtain ⟨b, hb, hf⟩ := Lib.mapM_at hm i i (by simp [hi])
        obtain ⟨s, hc, rfl, _⟩ := DataW.trod_string he hf
        have h1 : cs[i]? = some (.string s) := by
          have := congrArg (·[0]?) hc
          simpa [List.getElem?_take, List.getElem?_drop] using this
        have h2 : (xs.map (·.1))[i]? = some (DataW.lit (.string s.data.toList) : DataW H) := by simp [hb]
        rw [hxs] at h2
        simp only [List.getElem?_map, Option.map_eq_some_iff, DataW.lit.injEq, Lit.string.injEq] at h2
        obtain ⟨z', hz', h3⟩ := h2
        simp [h1, hz', ofL, h3]
      · rw [List.getElem?_eq_none (by omega), List.getElem?_eq_none (by simp; omega)]
    · cases h

theorem texts_of_head {P : Program} {W : World} {name : String} {zs : List Bytes} {rest : List (String × DataW Unit)} {g : Nat} {t e : TypeId} {n : Nat}
    (hg : P.globalNamed name = some g) (hty : (P.globals[g]?).map (·.type) = some t) (ht : P.underlying t = some (.array n e)) (he : P.underlying e = some .string) (hce : P.cellsOf e = 1) (hct : P.cellsOf t = n)
    (h : laidMet P ((name, .agg (zs.map fun s => .lit (.string s))) :: rest) W) : ∀ k s, zs[k]? = some s → W.cell? ⟨g, k, none⟩ = some (.string (ofL s)) := by
  obtain ⟨ps, ⟨g', t', cs, fuel, p, q, hg', ht', hvar, hd, _, _⟩, _⟩ := h
  obtain rfl := Option.some.inj (hg.symm.trans hg')
  obtain rfl := Option.some.inj (hty.symm.trans ht')
  intro k s hk
  have h2 := World.var?_cell hg hvar k
  rw [h2, ← Array.getElem?_toList, cells_of_texts ht he hce hct hd]
  simp [hk]

theorem glob_of_laid {W : World} (h : laidMetH Tryz.prog Rows.inboxNoneRow.laid W) (hs : W.ShapedOpen Tryz.prog) : Glob W := by
  have h0 : laidMet Tryz.prog Rows.inboxNoneRow.laid W := h
  have hE : laidMet Tryz.prog [("lamplighter/frame.ends", Lib.tabData .u8 [28, 13])] W := h0.filter (fun x => x.1 == "lamplighter/frame.ends")
  have hV : laidMet Tryz.prog [("lamplighter/msh.versions", .agg (versions.map fun s => .lit (.string s)))] W := h0.filter (fun x => x.1 == "lamplighter/msh.versions")
  have hC : laidMet Tryz.prog [("lamplighter/ack.codes", .agg ([aa, ae, ar].map fun s => .lit (.string s)))] W := h0.filter (fun x => x.1 == "lamplighter/ack.codes")
  have gE : Tryz.prog.globalNamed "lamplighter/frame.ends" = some 0 := by kernel_rfl
  have gV : Tryz.prog.globalNamed "lamplighter/msh.versions" = some 2 := by kernel_rfl
  have gC : Tryz.prog.globalNamed "lamplighter/ack.codes" = some 1 := by kernel_rfl
  have hT := Lib.tabIs_of_head gE (show _ = some 106 by kernel_rfl) Tryz.underlying106 Tryz.underlying5 (by kernel_rfl) (by kernel_rfl) hE
  refine ⟨hT.cell gE 0 (by decide), hT.cell gE 1 (by decide), ?_, ?_, Tryz.laysM144.s1_3 W hs⟩
  · exact texts_of_head gC (show _ = some 173 by kernel_rfl) Tryz.underlying173 Tryz.underlying9 (by kernel_rfl) (by kernel_rfl) hC
  · exact texts_of_head gV (show _ = some 214 by kernel_rfl) Tryz.underlying214 Tryz.underlying9 (by kernel_rfl) (by kernel_rfl) hV
end Go.Proofs.YtgpmnicmgehmbaaGreatDoor


namespace Go.Proofs.YtgpmnicmgehmbaaGreatDoor
open Go.ChangeShapes Go.WideShapes Go.ChangeAt Go.RowKit Lamp

set_option maxRecDepth 100000
theorem ownKnob_none : ownKnob Tryz.prog.godebug = none := by kernel_rfl
theorem laid_out : laidOutB Tryz.prog = true := by kernel_rfl

/-- A datum's cells, laid flat. -/
def flat : Nat → DataW Unit → List Value
  | 0, _ => []
  | n + 1, .agg ps => ps.flatMap (flat n)
  | _ + 1, .lit (.int k z) => [.int k z]
  | _ + 1, .lit (.string s) => [.string (ofL s)]
  | _ + 1, _ => []
def setTo (c : Array Value) : Obj → Obj
  | .cells _ t f => .cells c t f
  | o => o
/-- A heap, the listed variables holding what the row says. -/
noncomputable def laidHeap : List (String × DataW Unit) → Array Obj → Array Obj
  | [], h => h
  | x :: r, h => laidHeap r (h.modify ((Tryz.prog.globalNamed x.1).getD 0) (setTo (flat 4 x.2).toArray))
/-- A world for the witness: the settled one, so turned. -/
noncomputable def laidWorld (l : List (String × DataW Unit)) (os : Os) : World :=
  { World.holding Tryz.prog os ⟨#[], #[], []⟩ with heap := laidHeap l (World.holding Tryz.prog os ⟨#[], #[], []⟩).heap }

namespace cardNone
def wargs : Array Value := #[.int .i64 0, .slice none 0 0]
theorem laid_met (os : Os) : laidMet Tryz.prog Rows.inboxNoneRow.laid ((laidWorld Rows.inboxNoneRow.laid os).forCall (fun _ _ => 0) ⟨#[], wargs, []⟩).memory :=
  laidMet_of_run' 8 (by kernel_rfl) (by kernel_rfl)
theorem reads (os : Os) {H : Type} (enc : TypeId × Value → H) : ∃ places, DataW.whole enc Tryz.prog ((laidWorld Rows.inboxNoneRow.laid os).forCall (fun _ _ => 0) ⟨#[], wargs, []⟩).memory Tryz.f5.params.toList Rows.inboxNoneSpec.vars false wargs.toList 8 = some ([.lit (.int .i64 0), .nil], [], places) :=
  ⟨[], by kernel_rfl⟩
end cardNone
end Go.Proofs.YtgpmnicmgehmbaaGreatDoor


namespace Go.Proofs.YtgpmnicmgehmbaaGreatDoor
open Go.ChangeShapes Go.WideShapes Go.ChangeAt Go.RowKit Lamp
set_option maxRecDepth 100000
namespace cardTakes
def wargs : Array Value := #[.slice none 0 0, .int .u8 0]
theorem laid_met (os : Os) : laidMet Tryz.prog Rows.inboxTakesRow.laid ((laidWorld Rows.inboxTakesRow.laid os).forCall (fun _ _ => 0) ⟨#[], wargs, []⟩).memory :=
  laidMet_of_run' 8 (by kernel_rfl) (by kernel_rfl)
theorem reads (os : Os) {H : Type} (enc : TypeId × Value → H) : ∃ places, DataW.whole enc Tryz.prog ((laidWorld Rows.inboxTakesRow.laid os).forCall (fun _ _ => 0) ⟨#[], wargs, []⟩).memory Tryz.f3.params.toList Rows.inboxTakesSpec.vars false wargs.toList 8 = some ([.nil, .lit (.int .u8 0)], [], places) :=
  ⟨[], by kernel_rfl⟩
theorem contract (H : Type) (enc : TypeId × Value → H) (W : World) (base : Nat) (args : Array Value) (ds gs : List (DataW H)) (before : List MemPlace)
    (hval : ∀ (j : Nat) t v, Tryz.f3.params[j]? = some t → args[j]? = some v → Value.okWide Tryz.prog W .any base t v)
    (hW : DataW.Whole enc Tryz.prog Tryz.f3.params.toList Rows.inboxTakesSpec.vars false W args.toList ds gs before) (hL : laidMetH Tryz.prog Rows.inboxTakesRow.laid W) (hS : W.ShapedOpen Tryz.prog) :
    Calls Tryz.prog 3 args W fun e W' => ∃ v, e = .returned v ∧ Rows.inboxTakesSpec.post enc Tryz.prog Tryz.f3 false true false false W args v W' := by
  have hW' := hW
  obtain ⟨p, q, hA0, hV, rfl, _, _⟩ := hW
  have hA : DataW.TrodAll enc Tryz.prog W 0 (fun _ => true) true Tryz.f3.params.toList args.toList ds p := hA0
  rw [Tryz.params3] at hA hval
  obtain ⟨v0, vs0, d0, ds0, p0, q0, hargs, rfl, rfl, h0, r0⟩ := trodAll_cons hA
  obtain ⟨v1, vs1, d1, ds1, p1, q1, rfl, rfl, rfl, h1, r1⟩ := trodAll_cons r0
  obtain ⟨rfl, rfl, rfl⟩ := trodAll_nil r1
  obtain rfl : args = #[v0, v1] := by cases args with | mk l => exact congrArg Array.mk hargs
  obtain ⟨rfl, rfl⟩ := trodVars_none hV
  obtain ⟨a0, l0, c0, rfl⟩ := okWide_slice Tryz.underlying22 (hval 0 22 v0 rfl rfl)
  obtain ⟨n1, rfl, rfl, rfl, hwn1⟩ := open_int Tryz.underlying5 (hval 1 5 v1 rfl rfl) h1
  simp only [List.append_nil] at hW'
  have hlt : ∀ x ∈ p0, x.block < W.heap.size := fun x hx => by simpa using hW'.lt x hx
  have hg := glob_of_laid hL hS
  have h6 : 6 ≤ W.heap.size := by
    obtain ⟨o, _, ho, _⟩ := hS.2 6 (of_decide_eq_true (by kernel_rfl)) (of_decide_eq_true (by kernel_rfl))
    have := lt_of_heap ho
    omega
  have hu := range_u8 hwn1
  refine (show Calls Tryz.prog 3 #[.slice a0 l0 c0, .int .u8 n1] W (fun e w' => e = .returned (.bool true) ∧ Chg No W w') from ?_).mono fun e W' ⟨he, hc⟩ => ?_
  · by_cases hl : 2000 < l0
    · exact takes_short W a0 l0 c0 n1 hg h6 hl
    · obtain ⟨b, hbl, hb⟩ := open_bytes h0 (by omega)
      exact takes_long W _ b n1 hg h6 hb (by omega) (by omega)
  subst he
  refine ⟨_, rfl, _, _, p0, [], p0, [], hW', ?_, ?_, rfl, ?_, fun h => by cases h⟩
  · exact trodAll_mk1 (shut_bool Tryz.underlying4 _)
  · have hsh := trodAll_cons_mk (Below.trod laid_out (by kernel_rfl) (of_decide_eq_true (by kernel_rfl)) h0 hc.below hlt) (trodAll_mk1 (shut_int Tryz.underlying5 hwn1))
    simp only [List.append_nil] at hsh
    exact hsh
  · exact hc.below.frame _

theorem lifted (os : Os) (started : os.Started) (H : Type) (enc : TypeId × Value → H) (F : Stop.Interp) :
    ReturnsInHanded {} Tryz.checked os 3 .any ((OpenSpec.ofChange Rows.inboxTakesSpec).preRow enc Tryz.prog Tryz.f3 Rows.inboxTakesRow.domain false Rows.inboxTakesRow.laid) (((OpenSpec.ofChange Rows.inboxTakesSpec).at F).post enc Tryz.prog Tryz.f3 false true false false) := by
  obtain ⟨places, hx⟩ := reads os enc
  refine returnsInHanded_of_row (C := Tryz.checked) (s := OpenSpec.ofChange Rows.inboxTakesSpec) ownKnob_none started (by kernel_rfl) Tryz.func3
    (witness_row_at (enc := enc) (C := Tryz.checked) false (laidWorld Rows.inboxTakesRow.laid os) wargs rfl (by kernel_rfl) (by kernel_rfl) (by kernel_rfl)
      (OpenSpec.preRow_of_cond 8 hx (by kernel_rfl) (fun k hk => by cases hk) (by kernel_rfl) (laid_met os))) ?_
  intro W base args ds gs before hval hW _ _ _ hL hS _
  exact contract H enc W base args ds gs before hval hW hL hS

theorem said : Rows.InboxTakesSaid :=
  OpenClaim.holds_of_cond 3 Tryz.f3 rfl rfl rfl rfl rfl rfl rfl ⟨rfl, rfl, rfl, rfl, rfl⟩ rfl rfl rfl rfl rfl (by kernel_rfl) Tryz.func3 (by kernel_rfl)
    (of_decide_eq_true (by kernel_rfl)) (by unfold Func.isWrapper; first | (rw [if_pos (by decide +kernel)]; kernel_rfl) | (rw [if_neg (by decide +kernel)]; exact ⟨rfl, rfl⟩))
    (fun os started H enc _ F => by rw [OpenClaim.pre_eq_preRow]; exact lifted os started H enc F)

theorem plain (f : FuncId) (fn : Func) (hf : Tryz.pinned.checked.prog.funcNamed "lamplighter/lamplighterlaw17.InboxTakes" = some f) (hfn : Tryz.pinned.checked.prog.funcs[f]? = some fn) :
    true = Tryz.pinned.checked.prog.looks [] ∧ ∀ (j : Nat) t, fn.params[j]? = some t → Tryz.pinned.checked.prog.wantsStandIn t = false := by
  obtain rfl : f = 3 := Option.some.inj ((show Tryz.prog.funcNamed "lamplighter/lamplighterlaw17.InboxTakes" = some 3 by kernel_rfl).symm.trans hf) |>.symm
  obtain rfl : fn = Tryz.f3 := (Option.some.inj (Tryz.func3.symm.trans hfn)).symm
  refine ⟨by kernel_rfl, fun j t ht => ?_⟩
  rw [Tryz.params3] at ht
  have h3 : t = 22 ∨ t = 5 := by simpa using Array.mem_of_getElem? ht
  rcases h3 with rfl | rfl
  · exact (show Tryz.prog.wantsStandIn 22 = false by kernel_rfl)
  · exact (show Tryz.prog.wantsStandIn 5 = false by kernel_rfl)

/-- The card. -/
theorem card : Rows.InboxTakesCardSaid :=
  Claim7.holds_tied_plain_at .later [] _ _ _ _ said (fun _ h => by cases h) (by kernel_rfl) (fun _ h => by cases h) inboxTakes_row_tie rfl ⟨rfl, rfl⟩ (by kernel_rfl) rfl plain (by kernel_rfl)
#print axioms card
end cardTakes
end Go.Proofs.YtgpmnicmgehmbaaGreatDoor
