/- THE LAW DocApart answers true whatever the values, and leaves what was there as it was. Conditions: those of its row (the two listed tables; the form's own reach), no more; by the tie the card. -/
/- Merged by a program of ours: X3 X4. -/
import Derived.Test.YthfopcdammlmfaaDoorE1
import Derived.Test.YthfopcdammlmfaaDoorCards
import Derived.Test.YthfopcdammlmfaaDoorTie
import Derived.ProofKit
import Derived.OpenShut
import Derived.Lib.LaidIn
import Derived.Deep.DeepHandedRow
import Derived.Carry
import Derived.Test.YthfopcdammlmfaaDoorD8
set_option linter.all false
set_option linter.unusedSimpArgs false
set_option linter.unusedVariables false
/- What the wraps of the rows ask, at this program. -/
namespace Go.Proofs.YthfopcdammlmfaaDoor
open Go.ChangeShapes Go.WideShapes Go.ChangeAt Go.RowKit Go.Tm Go Go.Proofs
set_option maxRecDepth 10000
set_option linter.unusedSimpArgs false
set_option linter.unusedVariables false
theorem own : ownKnob Tryd.prog.godebug = none := by kernel_rfl
theorem mixed : Tryd.prog.follows .mixedOrders = true := Tryd.checked.mixed
theorem begun : (((begin Tryd.prog (fun _ _ => 0) default).world.heap[1]?).bind Obj.row?).isSome = true := by kernel_rfl
theorem nglobals : Tryd.prog.globals.size = 2 := by kernel_rfl
theorem size_le {W : World} (h : W.ShapedOpen Tryd.prog) : 2 ≤ W.heap.size := by
  obtain ⟨⟨zero, t⟩, hz⟩ := Option.isSome_iff_exists.1 begun
  obtain ⟨cs, hc, _⟩ := h.1 1 zero t (by rw [nglobals]; omega) hz
  rcases Nat.lt_or_ge 1 W.heap.size with h' | h'
  · exact h'
  · simp [Array.getElem?_eq_none h'] at hc
/-- The cells of a row of numbers. -/
def cellsOf (d : DataW Unit) : List Value :=
  match d with
  | .agg l => l.map fun
    | .lit (.int k n) => Value.int k n
    | _ => Value.nilFunc
  | _ => []
/-- THE WITNESS: the settled world, the two variables holding what their initialisers lay. -/
noncomputable def laidWorld (os : Os) : World :=
  let w0 := World.holding Tryd.prog os ⟨#[], #[], []⟩
  let put (h : Array Obj) (g : Nat) (cs : Array Value) : Array Obj := h.modify g fun
    | .cells _ t frozen => .cells cs t frozen
    | o => o
  let h1 := put w0.heap 0 (cellsOf Rows.laid_unicode_utf8_first).toArray
  let h2 := put h1 1 (([128, 191, 160, 191, 128, 159, 144, 191, 128, 143] ++ List.replicate 22 0 : List Int).map fun z => Value.int .u8 z).toArray
  { w0 with heap := h2 }
theorem laid_tabs {W : World} (hL : laidMetH Tryd.prog Rows.docKnownRow.laid W) : TabsOk W := by
  have e1 : (Rows.laid_unicode_utf8_acceptRanges : DataW Unit) = Lib.acceptData := by kernel_rfl
  have e2 : Rows.laid_unicode_utf8_first = Lib.firstData := by kernel_rfl
  unfold Rows.docKnownRow at hL
  simp only at hL
  rw [e1, e2] at hL
  exact utf8Tabs_of_readsT (U8Types.of196 laysValid) ⟨by kernel_rfl, by kernel_rfl, by kernel_rfl, by kernel_rfl, by kernel_rfl, by kernel_rfl, by kernel_rfl⟩ (Lib.laidMet.reads hL (.tail _ (.head _))) (Lib.laidMet.reads hL (.head _))
theorem wf_start (W : World) (vs : List Value) : WF (EW W vs) ⟨(EW W vs).base, .leaf⟩ := ⟨Nat.le_refl _, fun b o h => by simp [Heap.get, Tr.get_leaf] at h⟩
theorem slice_cells {W : World} {base : Nat} {t e : TypeId} {v : Value} (hu : Tryd.prog.underlying t = some (.slice e)) (h : Value.okWide Tryd.prog W .any base t v) : v.cells.toList = [v] := by
  unfold Value.okWide at h
  rw [hu] at h
  simp only [Cell.okWide, hu, Cell.ok] at h
  split at h <;> first | rfl | exact h.elim | (rename_i e1 e2; cases e1) | skip
  all_goals (simp_all [Value.cells])
end Go.Proofs.YthfopcdammlmfaaDoor
namespace Go.Proofs.YthfopcdammlmfaaDoor.docApart
open Go.ChangeShapes Go.WideShapes Go.ChangeAt Go.RowKit Go.Tm Go Go.Proofs
set_option maxRecDepth 10000
set_option linter.unusedSimpArgs false
set_option linter.unusedVariables false
theorem params : Tryd.f4.params = #[25] := by kernel_rfl
theorem results : Tryd.f4.resultTypes = #[4] := by kernel_rfl
theorem contract (H : Type) (enc : TypeId × Value → H) (W : World) (base : Nat) (args : Array Value) (ds gs : List (DataW H)) (before : List MemPlace) (hs : W.ShapedOpen Tryd.prog) (hT : TabsOk W)
    (hval : ∀ (j : Nat) t v, Tryd.f4.params[j]? = some t → args[j]? = some v → Value.okWide Tryd.prog W .any base t v)
    (hwt : (DataW.weightsEach Tryd.prog (Tryd.f4.params.toList ++ (OpenSpec.ofChange Rows.docApartSpec).bare.plain.varTypes Tryd.prog) (ds ++ gs)).all (· ≤ reachBytes) = true)
    (hW : DataW.Whole enc Tryd.prog Tryd.f4.params.toList Rows.docApartSpec.vars false W args.toList ds gs before) :
    Calls Tryd.prog 4 args W fun e W' => ∃ v, e = .returned v ∧ Rows.docApartSpec.post enc Tryd.prog Tryd.f4 false true false false W args v W' := by
  have hW' := hW
  obtain ⟨p, q, hA0, hV, rfl, hfz, hnd⟩ := hW
  rw [params] at hA0 hval hwt
  obtain ⟨v0, d0, rfl, rfl, h0⟩ := trodAll_one hA0
  obtain ⟨rfl, rfl⟩ := trodVars_none hV
  have hc0 := slice_cells Tryd.underlying25 (hval 0 _ v0 rfl rfl)
  have hwt0 : ∀ n, n ∈ d0.weights Tryd.prog 25 → n ≤ reachBytes := by
    intro n hn
    have := List.all_eq_true.1 hwt n (by
      show n ∈ DataW.weightsEach Tryd.prog (25 :: _) (d0 :: _)
      unfold DataW.weightsEach
      exact List.mem_append_left _ hn)
    simpa using this
  obtain ⟨l, cl, hsl, hrl, hpl⟩ := vals_read (W := W) (vs := [v0]) h0 hwt0 (by simp) hc0
  obtain ⟨r, h', k, ⟨rfl, hkp, hwf⟩, hk⟩ := apart_at (EW_ok W [v0]) (wf_start W [v0]) (noMem_frz _ _) hsl hrl
  have hcl1 : cl1 (EW W [v0]).base v0 = true := cl1_of hpl (topN_arg (by simp))
  have hlo : ∀ b o, b < (EW W [v0]).base → (EW W [v0]).ro b = some o → b < W.heap.size := fun b o _ hb => by
    replace hb : W.heap[b]? = some o := hb
    rcases Nat.lt_or_ge b W.heap.size with h | h
    · exact h
    · rw [Array.getElem?_eq_none h] at hb; cases hb
  have hcall := call_open (prog_ok W [v0] (size_le hs)) (known_ok [v0] hT) mixed (hk k (Nat.le_refl _)) (fun x hx => by simp only [List.mem_singleton] at hx; subst hx; exact sc_enc1 _ _ hcl1)
    (vs := [v0]) (by rw [List.map_cons, List.map_nil, ren_enc1 _ _ (fun b _ => rfl) v0 hcl1]) (fun ρ => rfl) hlo (fun b o _ hb => hb)
  have hlt : ∀ x ∈ p ++ [], x.block < W.heap.size := fun x hx => by simpa using hW'.lt x hx
  refine hcall.mono ?_
  rintro e W' ⟨rfl, bel⟩
  refine ⟨_, rfl, _, _, _, [], p, [], hW', ?_, ?_, rfl, bel.frame _, fun h => by cases h⟩
  · rw [results]; exact trodAll_cons_mk (shut_bool Tryd.underlying4 _) trodAll_mk0
  · rw [params]
    exact trodAll_mk1 (Below.trod (by kernel_rfl) (by kernel_rfl) (of_decide_eq_true (by kernel_rfl)) h0 bel (fun x hx => hlt x (by simp [hx])))
theorem laid_met (os : Os) (args : Array Value) : laidMet Tryd.prog Rows.docApartRow.laid ((laidWorld os).forCall (fun _ _ => 0) ⟨#[], args, []⟩).memory :=
  (LaidIn.of_run (l := Rows.docApartRow.laid) [0, 1] 8 (by kernel_rfl) (by kernel_rfl) (by kernel_rfl) (by kernel_rfl)).met
theorem reads (os : Os) {H : Type} (enc : TypeId × Value → H) : ∃ places, DataW.whole enc Tryd.prog ((laidWorld os).forCall (fun _ _ => 0) ⟨#[], #[.slice none 0 0], []⟩).memory Tryd.f4.params.toList Rows.docApartSpec.vars false (#[.slice none 0 0] : Array Value).toList 8 = some ([.nil], [], places) :=
  ⟨[], by kernel_rfl⟩
theorem lifted (os : Os) (started : os.Started) (H : Type) (enc : TypeId × Value → H) (F : Stop.Interp) :
    ReturnsInHanded {} Tryd.checked os 4 .any ((OpenSpec.ofChange Rows.docApartSpec).preRow enc Tryd.prog Tryd.f4 Rows.docApartRow.domain false Rows.docApartRow.laid) (((OpenSpec.ofChange Rows.docApartSpec).at F).post enc Tryd.prog Tryd.f4 false true false false) := by
  obtain ⟨places, hx⟩ := reads os enc
  refine returnsInHanded_of_row (C := Tryd.checked) (s := OpenSpec.ofChange Rows.docApartSpec) own started (by kernel_rfl) Tryd.func4
    (witness_row_at (enc := enc) (C := Tryd.checked) false (laidWorld os) #[.slice none 0 0] rfl (by kernel_rfl) (by kernel_rfl) (by kernel_rfl)
      (OpenSpec.preRow_of_cond 8 hx (by kernel_rfl) (fun k hk => by cases hk) (by kernel_rfl) (laid_met os _))) ?_
  intro W base args ds gs before hval hW _ _ hwt hL hs _
  exact contract H enc W base args ds gs before hs (laid_tabs hL) hval hwt hW
theorem said : Rows.DocApartSaid :=
  OpenClaim.holds_of_cond 4 Tryd.f4 rfl rfl rfl rfl rfl rfl rfl ⟨rfl, rfl, rfl, rfl, rfl⟩ rfl rfl rfl rfl rfl (by kernel_rfl) Tryd.func4 (by kernel_rfl)
    (of_decide_eq_true (by kernel_rfl)) (by unfold Func.isWrapper; first | (rw [if_pos (by decide +kernel)]; kernel_rfl) | (rw [if_neg (by decide +kernel)]; exact ⟨rfl, rfl⟩))
    (fun os started H enc _ F => by rw [OpenClaim.pre_eq_preRow]; exact lifted os started H enc F)
/-- No parameter wants a stand-in; the program's own looks are off: what the card asks. -/
theorem plain (f : FuncId) (fn : Func) (hf : Tryd.pinned.checked.prog.funcNamed Tryd.f4.name = some f) (hfn : Tryd.pinned.checked.prog.funcs[f]? = some fn) :
    false = Tryd.pinned.checked.prog.looks [] ∧ ∀ (j : Nat) t, fn.params[j]? = some t → Tryd.pinned.checked.prog.wantsStandIn t = false := by
  obtain rfl : f = 4 := Option.some.inj ((show Tryd.prog.funcNamed Tryd.f4.name = some 4 by kernel_rfl).symm.trans hf) |>.symm
  obtain rfl : fn = Tryd.f4 := (Option.some.inj (Tryd.func4.symm.trans hfn)).symm
  refine ⟨by kernel_rfl, fun j t ht => ?_⟩
  rw [params] at ht
  have e : t = 25 := by
    cases j with
    | zero => simp at ht; exact ht.symm
    | succ j => simp at ht
  rw [e]
  exact (by kernel_rfl : Tryd.prog.wantsStandIn 25 = false)
theorem card : Rows.DocApartCardSaid :=
  Claim7.holds_tied_plain_at .later [] _ _ _ _ said (fun _ h => by cases h) (by kernel_rfl) (fun _ h => by cases h) docApart_row_tie rfl ⟨rfl, rfl⟩ (by kernel_rfl) rfl plain (by kernel_rfl)
#print axioms card
end Go.Proofs.YthfopcdammlmfaaDoor.docApart
