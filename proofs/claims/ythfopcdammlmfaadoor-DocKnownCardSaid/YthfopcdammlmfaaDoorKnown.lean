/- THE LAW DocKnown answers true in whatever world, and leaves what was there as it was. Conditions: those of its row (the two listed tables), no more; by the tie the card. -/
import Derived.Test.YthfopcdammlmfaaDoorCards
import Derived.Test.YthfopcdammlmfaaDoorTie
import Derived.Test.YthfopcdammlmfaaDoorChecked
import Derived.ProofKit
import Derived.OpenShut
import Derived.Lib.LaidIn

import Derived.Deep.DeepHandedRow
import Derived.Test.YthfopcdammlmfaaDoorKnownRun
namespace Go.Proofs.YthfopcdammlmfaaDoor.docKnown
open Go.ChangeShapes Go.WideShapes Go.ChangeAt Go.RowKit Go.Tm

theorem own : ownKnob Tryd.prog.godebug = none := by kernel_rfl
theorem mixed : Tryd.prog.follows .mixedOrders = true := Tryd.checked.mixed
theorem begun : (((begin Tryd.prog (fun _ _ => 0) default).world.heap[1]?).bind Obj.row?).isSome = true := by kernel_rfl
theorem nglobals : Tryd.prog.globals.size = 2 := by kernel_rfl

theorem size_le {W : World} (h : W.ShapedOpen Tryd.prog) : 2 ≤ W.heap.size := by
  obtain ⟨⟨zero, t⟩, hz⟩ := Option.isSome_iff_exists.1 begun
  obtain ⟨cs, hc, _⟩ := h.1 1 zero t (by rw [nglobals]; omega) hz
  rcases Nat.lt_or_ge 1 W.heap.size with h' | h'
  · exact h'
  · simp [Array.getElem?_eq_none h'] at hc

theorem walk {W : World} (h : W.ShapedOpen Tryd.prog) : Calls Tryd.prog 3 #[] W fun e W' => e = .returned (.bool true) ∧ W.keptBut W' (fun _ => False) := by
  obtain ⟨h', hk⟩ := isTrue_eq known_runs
  exact call_closed (E := E0) prog_ok mixed hk (fun _ => rfl) (size_le h) (fun b o _ hx => by cases hx)

/-- The cells of a row of numbers. -/
def cellsOf (d : DataW Unit) : List Value :=
  match d with
  | .agg l => l.map fun
    | .lit (.int k n) => Value.int k n
    | _ => Value.nilFunc
  | _ => []
/-- THE WITNESS: the settled world, the two variables holding what their initialisers lay. -/
noncomputable def laidWorld (os : Os) : World :=
  let w0 := World.holding Tryd.prog os ⟨#[], #[], []⟩
  let put (h : Array Obj) (g : Nat) (cs : Array Value) : Array Obj := h.modify g fun
    | .cells _ t frozen => .cells cs t frozen
    | o => o
  let h1 := put w0.heap 0 (cellsOf Rows.laid_unicode_utf8_first).toArray
  let h2 := put h1 1 (([128, 191, 160, 191, 128, 159, 144, 191, 128, 143] ++ List.replicate 22 0 : List Int).map fun z => Value.int .u8 z).toArray
  { w0 with heap := h2 }
theorem laid_met (os : Os) (args : Array Value) : laidMet Tryd.prog Rows.docKnownRow.laid ((laidWorld os).forCall (fun _ _ => 0) ⟨#[], args, []⟩).memory :=
  (LaidIn.of_run (l := [("unicode/utf8.acceptRanges", Rows.laid_unicode_utf8_acceptRanges), ("unicode/utf8.first", Rows.laid_unicode_utf8_first)]) [0, 1] 8 (by kernel_rfl) (by kernel_rfl) (by kernel_rfl) (by kernel_rfl)).met

theorem reads (os : Os) {H : Type} (enc : TypeId × Value → H) : ∃ places, DataW.whole enc Tryd.prog ((laidWorld os).forCall (fun _ _ => 0) ⟨#[], #[], []⟩).memory Tryd.f3.params.toList Rows.docKnownSpec.vars false (#[] : Array Value).toList 8 = some ([], [], places) :=
  ⟨[], by kernel_rfl⟩

theorem results3 : Tryd.f3.resultTypes = #[4] := by kernel_rfl
theorem params3 : Tryd.f3.params = #[] := by kernel_rfl

theorem contract (H : Type) (enc : TypeId × Value → H) (W : World) (args : Array Value) (ds gs : List (DataW H)) (before : List MemPlace) (hs : W.ShapedOpen Tryd.prog)
    (hW : DataW.Whole enc Tryd.prog Tryd.f3.params.toList Rows.docKnownSpec.vars false W args.toList ds gs before) :
    Calls Tryd.prog 3 args W fun e W' => ∃ v, e = .returned v ∧ Rows.docKnownSpec.post enc Tryd.prog Tryd.f3 false true false false W args v W' := by
  have hW' := hW
  obtain ⟨p, q, hA0, hV, rfl, hfz, hnd⟩ := hW
  rw [params3] at hA0
  obtain ⟨ha, rfl, rfl⟩ := trodAll_nil hA0
  obtain rfl : args = #[] := by cases args; simp_all
  obtain ⟨rfl, rfl⟩ := trodVars_none hV
  refine (walk hs).mono fun e W' ⟨he, hk⟩ => ?_
  subst he
  refine ⟨_, rfl, _, _, _, [], [], [], hW', ?_, ?_, rfl, World.keptBut_mono (fun _ f => f.elim) hk, fun h => by cases h⟩
  · rw [results3]; exact trodAll_cons_mk (shut_bool Tryd.underlying4 _) trodAll_mk0
  · rw [params3]; exact trodAll_mk0

set_option maxRecDepth 100000 in
theorem lifted (os : Os) (started : os.Started) (H : Type) (enc : TypeId × Value → H) (F : Stop.Interp) :
    ReturnsInHanded {} Tryd.checked os 3 .any ((OpenSpec.ofChange Rows.docKnownSpec).preRow enc Tryd.prog Tryd.f3 Rows.docKnownRow.domain false Rows.docKnownRow.laid) (((OpenSpec.ofChange Rows.docKnownSpec).at F).post enc Tryd.prog Tryd.f3 false true false false) := by
  obtain ⟨places, hx⟩ := reads os enc
  refine returnsInHanded_of_row (C := Tryd.checked) (s := OpenSpec.ofChange Rows.docKnownSpec) own started (by kernel_rfl) Tryd.func3
    (witness_row_at (enc := enc) (C := Tryd.checked) false (laidWorld os) #[] rfl (by kernel_rfl) (by kernel_rfl) (by kernel_rfl)
      (OpenSpec.preRow_of_cond 8 hx (by kernel_rfl) (fun k hk => by cases hk) (by kernel_rfl) (laid_met os _))) ?_
  intro W base args ds gs before hval hW _ _ _ hL hs _
  exact contract H enc W args ds gs before hs hW

theorem said : Rows.DocKnownSaid :=
  OpenClaim.holds_of_cond 3 Tryd.f3 rfl rfl rfl rfl rfl rfl rfl ⟨rfl, rfl, rfl, rfl, rfl⟩ rfl rfl rfl rfl rfl (by kernel_rfl) Tryd.func3 (by kernel_rfl)
    (of_decide_eq_true (by kernel_rfl)) (by unfold Func.isWrapper; first | (rw [if_pos (by decide +kernel)]; kernel_rfl) | (rw [if_neg (by decide +kernel)]; exact ⟨rfl, rfl⟩))
    (fun os started H enc _ F => by rw [OpenClaim.pre_eq_preRow]; exact lifted os started H enc F)

/-- No parameter wants a stand-in; the program's own looks are off: what the card asks. -/
theorem plain (f : FuncId) (fn : Func) (hf : Tryd.pinned.checked.prog.funcNamed "tidemark/tidemarklaw12.DocKnown" = some f) (hfn : Tryd.pinned.checked.prog.funcs[f]? = some fn) :
    false = Tryd.pinned.checked.prog.looks [] ∧ ∀ (j : Nat) t, fn.params[j]? = some t → Tryd.pinned.checked.prog.wantsStandIn t = false := by
  obtain rfl : f = 3 := Option.some.inj ((show Tryd.prog.funcNamed "tidemark/tidemarklaw12.DocKnown" = some 3 by kernel_rfl).symm.trans hf) |>.symm
  obtain rfl : fn = Tryd.f3 := (Option.some.inj (Tryd.func3.symm.trans hfn)).symm
  refine ⟨by kernel_rfl, fun j t ht => ?_⟩
  rw [params3] at ht
  simp at ht

theorem card : Rows.DocKnownCardSaid :=
  Claim7.holds_tied_plain_at .later [] _ _ _ _ said (fun _ h => by cases h) (by kernel_rfl) (fun _ h => by cases h) docKnown_row_tie rfl ⟨rfl, rfl⟩ (by kernel_rfl) rfl plain (by kernel_rfl)
#print axioms card
end Go.Proofs.YthfopcdammlmfaaDoor.docKnown
