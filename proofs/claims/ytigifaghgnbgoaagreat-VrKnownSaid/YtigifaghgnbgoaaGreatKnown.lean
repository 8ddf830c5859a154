/- THE LAW VrKnown answers true in whatever world, and leaves what was there as it was. Conditions: those of its row, no more. -/
import Derived.Test.YtigifaghgnbgoaaGreatRows
import Derived.Test.YtigifaghgnbgoaaGreatChecked
import Derived.ProofKit
import Derived.OpenShut
import Derived.Lib.LaidIn

import Derived.Deep.DeepHandedRow
import Derived.Test.YtigifaghgnbgoaaGreatKnownRun
namespace Go.Proofs.YtigifaghgnbgoaaGreat.vrKnown
open Go.ChangeShapes Go.WideShapes Go.ChangeAt Go.RowKit Go.Tm

theorem own : ownKnob Tryz.prog.godebug = none := by kernel_rfl
theorem mixed : Tryz.prog.follows .mixedOrders = true := Tryz.checked.mixed
theorem begun : (((begin Tryz.prog (fun _ _ => 0) default).world.heap[4]?).bind Obj.row?).isSome = true := by kernel_rfl
theorem nglobals : Tryz.prog.globals.size = 5 := by kernel_rfl

theorem size_le {W : World} (h : W.ShapedOpen Tryz.prog) : E0.base ≤ W.heap.size := by
  obtain ⟨⟨zero, t⟩, hz⟩ := Option.isSome_iff_exists.1 begun
  obtain ⟨cs, hc, _⟩ := h.1 4 zero t (by rw [nglobals]; omega) hz
  show Tryz.prog.globals.size ≤ _
  rw [nglobals]
  rcases Nat.lt_or_ge 4 W.heap.size with h' | h'
  · exact h'
  · simp [Array.getElem?_eq_none h'] at hc

theorem walk {W : World} (h : W.ShapedOpen Tryz.prog) : Calls Tryz.prog 3 #[] W fun e W' => e = .returned (.bool true) ∧ W.keptBut W' (fun _ => False) := by
  obtain ⟨h', hk⟩ := isTrue_eq known_runs
  exact call_closed (E := E0) prog_ok mixed hk (fun _ => rfl) (size_le h) (fun b o _ hx => by cases hx)

/-- THE WITNESS: the settled world. -/
noncomputable def laidWorld (os : Os) : World := World.holding Tryz.prog os ⟨#[], #[], []⟩
theorem laid_met (w : World) : laidMet Tryz.prog Rows.vrKnownRow.laid w := ⟨[], rfl, List.nodup_nil, fun _ _ h => by cases h⟩

theorem reads (os : Os) {H : Type} (enc : TypeId × Value → H) : ∃ places, DataW.whole enc Tryz.prog ((laidWorld os).forCall (fun _ _ => 0) ⟨#[], #[], []⟩).memory Tryz.f3.params.toList Rows.vrKnownSpec.vars false (#[] : Array Value).toList 8 = some ([], [], places) :=
  ⟨[], by kernel_rfl⟩

theorem results3 : Tryz.f3.resultTypes = #[4] := by kernel_rfl
theorem params3 : Tryz.f3.params = #[] := by kernel_rfl

theorem contract (H : Type) (enc : TypeId × Value → H) (W : World) (args : Array Value) (ds gs : List (DataW H)) (before : List MemPlace) (hs : W.ShapedOpen Tryz.prog)
    (hW : DataW.Whole enc Tryz.prog Tryz.f3.params.toList Rows.vrKnownSpec.vars false W args.toList ds gs before) :
    Calls Tryz.prog 3 args W fun e W' => ∃ v, e = .returned v ∧ Rows.vrKnownSpec.post enc Tryz.prog Tryz.f3 false true false false W args v W' := by
  have hW' := hW
  obtain ⟨p, q, hA0, hV, rfl, hfz, hnd⟩ := hW
  rw [params3] at hA0
  obtain ⟨ha, rfl, rfl⟩ := trodAll_nil hA0
  obtain rfl : args = #[] := by cases args; simp_all
  obtain ⟨rfl, rfl⟩ := trodVars_none hV
  refine (walk hs).mono fun e W' ⟨he, hk⟩ => ?_
  subst he
  refine ⟨_, rfl, _, _, _, [], [], [], hW', ?_, ?_, rfl, World.keptBut_mono (fun _ f => f.elim) hk, fun h => by cases h⟩
  · rw [results3]; exact trodAll_cons_mk (shut_bool Tryz.underlying4 _) trodAll_mk0
  · rw [params3]; exact trodAll_mk0

set_option maxRecDepth 100000 in
theorem lifted (os : Os) (started : os.Started) (H : Type) (enc : TypeId × Value → H) (F : Stop.Interp) :
    ReturnsInHanded {} Tryz.checked os 3 .any ((OpenSpec.ofChange Rows.vrKnownSpec).preRow enc Tryz.prog Tryz.f3 Rows.vrKnownRow.domain false Rows.vrKnownRow.laid) (((OpenSpec.ofChange Rows.vrKnownSpec).at F).post enc Tryz.prog Tryz.f3 false true false false) := by
  obtain ⟨places, hx⟩ := reads os enc
  refine returnsInHanded_of_row (C := Tryz.checked) (s := OpenSpec.ofChange Rows.vrKnownSpec) own started (by kernel_rfl) Tryz.func3
    (witness_row_at (enc := enc) (C := Tryz.checked) false (laidWorld os) #[] rfl (by kernel_rfl) (by kernel_rfl) (by kernel_rfl)
      (OpenSpec.preRow_of_cond 8 hx (by kernel_rfl) (fun k hk => by cases hk) (by kernel_rfl) (laid_met _))) ?_
  intro W base args ds gs before hval hW _ _ _ hL hs _
  exact contract H enc W args ds gs before hs hW

theorem said : Rows.VrKnownSaid :=
  OpenClaim.holds_of_cond 3 Tryz.f3 rfl rfl rfl rfl rfl rfl rfl ⟨rfl, rfl, rfl, rfl, rfl⟩ rfl rfl rfl rfl rfl (by kernel_rfl) Tryz.func3 (by kernel_rfl)
    (of_decide_eq_true (by kernel_rfl)) (by unfold Func.isWrapper; first | (rw [if_pos (by decide +kernel)]; kernel_rfl) | (rw [if_neg (by decide +kernel)]; exact ⟨rfl, rfl⟩))
    (fun os started H enc _ F => by rw [OpenClaim.pre_eq_preRow]; exact lifted os started H enc F)

#print axioms said
end Go.Proofs.YtigifaghgnbgoaaGreat.vrKnown
