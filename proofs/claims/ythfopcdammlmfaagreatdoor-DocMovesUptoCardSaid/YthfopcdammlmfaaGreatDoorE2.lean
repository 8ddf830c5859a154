/- THE LAW DocMoves answers true whatever the list of values and the number, and leaves what was there as it was. Conditions: those of its row (the two listed tables; the form's own reach; a bulk of at most 1048576), no more; by the tie the card. -/
/- Merged by a program of ours: X3c X9. -/
import Derived.Test.YthfopcdammlmfaaGreatDoorE1
import Derived.Test.YthfopcdammlmfaaGreatDoorCards
import Derived.Test.YthfopcdammlmfaaGreatDoorTie
import Derived.ProofKit
import Derived.OpenShut
import Derived.Lib.LaidIn
import Derived.Deep.DeepHandedRow
import Derived.Carry
import Derived.Test.YthfopcdammlmfaaGreatDoorK7
set_option maxRecDepth 10000
set_option linter.all false
set_option linter.unusedSimpArgs false
set_option linter.unusedVariables false
/- What the wraps of the rows ask, at this program. -/
namespace Go.Proofs.YthfopcdammlmfaaGreatDoor
open Go.ChangeShapes Go.WideShapes Go.ChangeAt Go.RowKit Go.Tm Go Go.Proofs
theorem own : ownKnob Tryz.prog.godebug = none := by kernel_rfl
theorem mixed : Tryz.prog.follows .mixedOrders = true := Tryz.checked.mixed
theorem begun : (((begin Tryz.prog (fun _ _ => 0) default).world.heap[2]?).bind Obj.row?).isSome = true := by kernel_rfl
theorem nglobals : Tryz.prog.globals.size = 3 := by kernel_rfl
theorem size_le {W : World} (h : W.ShapedOpen Tryz.prog) : 3 ≤ W.heap.size := by
 obtain ⟨⟨zero, t⟩, hz⟩ := Option.isSome_iff_exists.1 begun
 obtain ⟨cs, hc, _⟩ := h.1 2 zero t (by rw [nglobals]; omega) hz
 rcases Nat.lt_or_ge 2 W.heap.size with h' | h'
 ·exact h'
 ·simp [Array.getElem?_eq_none h'] at hc
def cellsOf (d : DataW Unit) : List Value :=
 match d with
 | .agg l => l.map fun
   | .lit (.int k n) => Value.int k n
   | _ => Value.nilFunc
 | _ => []
noncomputable def laidWorld (os : Os) : World :=
 let w0 := World.holding Tryz.prog os ⟨#[], #[], []⟩
 let put (h : Array Obj) (g : Nat) (cs : Array Value) : Array Obj := h.modify g fun
  | .cells _ t frozen => .cells cs t frozen
  | o => o
 let h1 := put w0.heap 1 (cellsOf Rows.laid_unicode_utf8_first).toArray
 let h2 := put h1 2 (([128, 191, 160, 191, 128, 159, 144, 191, 128, 143] ++ List.replicate 22 0 : List Int).map fun z => Value.int .u8 z).toArray
 { w0 with heap := h2 }
theorem laid_tabs {W : World} (hL : laidMetH Tryz.prog Rows.docMovesUptoRow.laid W) : TabsOk W := by
 have e1 : (Rows.laid_unicode_utf8_acceptRanges : DataW Unit) = Lib.acceptData := by kernel_rfl
 have e2 : Rows.laid_unicode_utf8_first = Lib.firstData := by kernel_rfl
 unfold Rows.docMovesUptoRow at hL
 simp only at hL
 rw [e1, e2] at hL
 exact utf8Tabs_of_readsT (U8Types.of196 laysValid) ⟨by kernel_rfl, by kernel_rfl, by kernel_rfl, by kernel_rfl, by kernel_rfl, by kernel_rfl, by kernel_rfl⟩ (Lib.laidMet.reads hL (.tail _ (.head _))) (Lib.laidMet.reads hL (.head _))
theorem wf_start (W : World) (vs : List Value) : WF (EW W vs) ⟨(EW W vs).base, .leaf⟩ := ⟨Nat.le_refl _, fun b o h => by simp [Heap.get, Tr.get_leaf] at h⟩
theorem slice_cells {W : World} {base : Nat} {t e : TypeId} {v : Value} (hu : Tryz.prog.underlying t = some (.slice e)) (h : Value.okWide Tryz.prog W .any base t v) : v.cells.toList = [v] := by
 unfold Value.okWide at h
 rw [hu] at h
 simp only [Cell.okWide, hu, Cell.ok] at h
 split at h <;> first | rfl | exact h.elim | (rename_i e1 e2; cases e1) | skip
 all_goals (simp_all [Value.cells])
end Go.Proofs.YthfopcdammlmfaaGreatDoor
namespace Go.Proofs.YthfopcdammlmfaaGreatDoor.docMoves
open Go.ChangeShapes Go.WideShapes Go.ChangeAt Go.RowKit Go.Tm Go Go.Proofs
theorem params : Tryz.f4.params = #[22, 3] := by kernel_rfl
theorem results : Tryz.f4.resultTypes = #[4] := by kernel_rfl
theorem int_read {H : Type} {enc : TypeId × Value → H} {W : World} {v : Value} {d : DataW H} {ps : List MemPlace} {base : Nat} {held : Bool} (h : DataW.Trod enc Tryz.prog W 0 (fun _ => true) held 3 v d ps) (hv : Value.okWide Tryz.prog W .any base 3 v) : ∃ x : Int, v = .int .i64 x := by
 obtain ⟨fuel, h⟩ := h
 have hc : v.cells.toList = [v] := by
  unfold Value.okWide at hv
  rw [Tryz.underlying3] at hv
  simp only [Cell.okWide, Tryz.underlying3, Cell.ok] at hv
  split at hv <;> first | rfl | exact hv.elim | (rename_i e1 e2; cases e1) | skip
  all_goals (simp_all [Value.cells])
 rw [hc] at h
 cases fuel with
 | zero => simp [DataW.trod] at h
 | succ f =>
 obtain ⟨n, q, a, b⟩ := trod_int Tryz.underlying3 h
 injection q with q
 exact ⟨n, q⟩
theorem contract (H : Type) (enc : TypeId × Value → H) (W : World) (base : Nat) (args : Array Value) (ds gs : List (DataW H)) (before : List MemPlace) (hs : W.ShapedOpen Tryz.prog) (hT : TabsOk W)
 (hval : ∀ (j : Nat) t v, Tryz.f4.params[j]? = some t → args[j]? = some v → Value.okWide Tryz.prog W .any base t v)
 (hbulk : Rows.uptoBulkAll (ds ++ gs) ≤ 1048576)
 (hwt : (DataW.weightsEach Tryz.prog (Tryz.f4.params.toList ++ (Rows.OpenSpec.upto Rows.docMovesSpec).bare.plain.varTypes Tryz.prog) (ds ++ gs)).all (· ≤ reachBytes) = true)
 (hW : DataW.Whole enc Tryz.prog Tryz.f4.params.toList Rows.docMovesSpec.vars false W args.toList ds gs before) :
 Calls Tryz.prog 4 args W fun e W' => ∃ v, e = .returned v ∧ Rows.docMovesSpec.post enc Tryz.prog Tryz.f4 false true false false W args v W' := by
 have hW' := hW
 obtain ⟨p, q, hA0, hV, rfl, hfz, hnd⟩ := hW
 rw [params] at hA0 hval hwt
 obtain ⟨v0, v1, d0, d1, p0, p1, rfl, rfl, rfl, h0, h1⟩ := trodAll_two hA0
 obtain ⟨rfl, rfl⟩ := trodVars_none hV
 obtain ⟨a, rfl⟩ := int_read h1 (hval 1 _ v1 rfl rfl)
 have hc0 := slice_cells Tryz.underlying22 (hval 0 _ v0 rfl rfl)
 have hwt0 : ∀ n, n ∈ d0.weights Tryz.prog 22 → n ≤ reachBytes := by
  intro n hn
  have := List.all_eq_true.1 hwt n (by
   show n ∈ DataW.weightsEach Tryz.prog (22 :: _) (d0 :: _)
   unfold DataW.weightsEach
   exact List.mem_append_left _ hn)
  simpa using this
 obtain ⟨l, cl, hsl, hrl, hpl, hbd⟩ := vals_read (W := W) (vs := [v0]) (Bd := 1048576) h0 hwt0 (by simp) hc0 (by
  have := bulk_mem (l := [d0, d1] ++ []) (d := d0) (by simp)
  exact Nat.le_trans this hbulk)
 have hsm : ∀ V, V ∈ l → allV smallV V = true ∧ (V.sz ≤ 5000 → (bytesV V).length ≤ 1000000000000) := fun V hV => by
  have hb := hbd V hV
  refine ⟨allV_imp2 (fun v hv => by
   simp only [boundV, smallV, Bool.and_eq_true, decide_eq_true_eq, List.all_eq_true] at hv ⊢
   exact ⟨by omega, fun x hx => by have := hv.2 x hx; omega⟩) V.sz V (Nat.le_refl _) hb, fun hz => ?_⟩
  have h1 := bytes_bd V.sz V (Nat.le_refl _) hb
  have h2 : V.sz * (4 * 1048576 + 64) ≤ 5000 * (4 * 1048576 + 64) := Nat.mul_le_mul_right _ hz
  omega
 obtain ⟨r, h', k, ⟨rfl, hkp, hwf⟩, hk⟩ := moves_at (EW_ok W [v0]) (wf_start W [v0]) (noMem_frz _ _) hsl hrl hsm (steps := a)
 have hcl1 : cl1 (EW W [v0]).base v0 = true := cl1_of hpl (topN_arg (by simp))
 have hlo : ∀ b o, b < (EW W [v0]).base → (EW W [v0]).ro b = some o → b < W.heap.size := fun b o _ hb => by
  replace hb : W.heap[b]? = some o := hb
  rcases Nat.lt_or_ge b W.heap.size with h | h
  ·exact h
  ·rw [Array.getElem?_eq_none h] at hb; cases hb
 have hpo := prog_ok W [v0] (size_le hs)
 have hcall := call_open hpo (known_ok [v0] hT) (iter_none (EW_ok W [v0])) mixed (hk k (Nat.le_refl _)) (fun x hx => by
  rcases List.mem_cons.1 hx with rfl | hx
  ·exact sc_enc1 _ _ hcl1
  ·simp only [List.mem_singleton] at hx; subst hx; rfl)
  (vs := [v0, .int .i64 a]) (by rw [List.map_cons, List.map_cons, List.map_nil, ren_enc1 _ _ (fun b _ => rfl) v0 hcl1]; rfl) (fun ρ => rfl) hlo (fun b o _ hb => hb)
 have hlt : ∀ x ∈ (p0 ++ p1) ++ [], x.block < W.heap.size := fun x hx => by simpa using hW'.lt x hx
 refine hcall.mono ?_
 rintro e W' ⟨rfl, bel⟩
 refine ⟨_, rfl, _, _, _, [], p0 ++ p1, [], hW', ?_, ?_, rfl, bel.frame _, fun h => by cases h⟩
 ·rw [results]; exact trodAll_cons_mk (shut_bool Tryz.underlying4 _) trodAll_mk0
 ·rw [params]
  exact trodAll_mk2 (Below.trod (by kernel_rfl) (by kernel_rfl) (of_decide_eq_true (by kernel_rfl)) h0 bel (fun x hx => hlt x (by simp [hx]))) (Below.trod (by kernel_rfl) (by kernel_rfl) (of_decide_eq_true (by kernel_rfl)) h1 bel (fun x hx => hlt x (by simp [hx])))
theorem laid_met (os : Os) (args : Array Value) : laidMet Tryz.prog Rows.docMovesUptoRow.laid ((laidWorld os).forCall (fun _ _ => 0) ⟨#[], args, []⟩).memory :=
 (LaidIn.of_run (l := Rows.docMovesUptoRow.laid) [1, 2] 8 (by kernel_rfl) (by kernel_rfl) (by kernel_rfl) (by kernel_rfl)).met
def wit : Array Value := #[.slice none 0 0, .int .i64 0]
theorem reads (os : Os) {H : Type} (enc : TypeId × Value → H) : ∃ places, DataW.whole enc Tryz.prog ((laidWorld os).forCall (fun _ _ => 0) ⟨#[], wit, []⟩).memory Tryz.f4.params.toList Rows.docMovesSpec.vars false wit.toList 8 = some ([.nil, .lit (.int .i64 0)], [], places) :=
 ⟨[], by kernel_rfl⟩
theorem lifted (os : Os) (started : os.Started) (H : Type) (enc : TypeId × Value → H) (F : Stop.Interp) :
 ReturnsInHanded {} Tryz.checked os 4 .any ((Rows.OpenSpec.upto Rows.docMovesSpec).preRow enc Tryz.prog Tryz.f4 Rows.docMovesUptoRow.domain false Rows.docMovesUptoRow.laid) (((Rows.OpenSpec.upto Rows.docMovesSpec).at F).post enc Tryz.prog Tryz.f4 false true false false) := by
 obtain ⟨places, hx⟩ := reads os enc
 refine returnsInHanded_of_row (C := Tryz.checked) (s := Rows.OpenSpec.upto Rows.docMovesSpec) own started (by kernel_rfl) Tryz.func4
  (witness_row_at (enc := enc) (C := Tryz.checked) false (laidWorld os) wit rfl (by kernel_rfl) (by kernel_rfl) (by kernel_rfl)
   (OpenSpec.preRow_of_cond 8 hx (by kernel_rfl) (fun k hk => by cases hk; rfl) (by kernel_rfl) (laid_met os _))) ?_
 intro W base args ds gs before hval hW _ hcond hwt hL hs _
 exact contract H enc W base args ds gs before hs (laid_tabs hL) hval (of_decide_eq_true (hcond _ rfl)) hwt hW
theorem said : Rows.DocMovesUptoSaid :=
 OpenClaim.holds_of_cond 4 Tryz.f4 rfl rfl rfl rfl rfl rfl rfl ⟨rfl, rfl, rfl, rfl, rfl⟩ rfl rfl rfl rfl rfl (by kernel_rfl) Tryz.func4 (by kernel_rfl)
  (of_decide_eq_true (by kernel_rfl)) (by unfold Func.isWrapper; first | (rw [if_pos (by decide +kernel)]; kernel_rfl) | (rw [if_neg (by decide +kernel)]; exact ⟨rfl, rfl⟩))
  (fun os started H enc _ F => by rw [OpenClaim.pre_eq_preRow]; exact lifted os started H enc F)
theorem plain (f : FuncId) (fn : Func) (hf : Tryz.pinned.checked.prog.funcNamed Tryz.f4.name = some f) (hfn : Tryz.pinned.checked.prog.funcs[f]? = some fn) :
 false = Tryz.pinned.checked.prog.looks [] ∧ ∀ (j : Nat) t, fn.params[j]? = some t → Tryz.pinned.checked.prog.wantsStandIn t = false := by
 obtain rfl : f = 4 := Option.some.inj ((show Tryz.prog.funcNamed Tryz.f4.name = some 4 by kernel_rfl).symm.trans hf) |>.symm
 obtain rfl : fn = Tryz.f4 := (Option.some.inj (Tryz.func4.symm.trans hfn)).symm
 refine ⟨by kernel_rfl, fun j t ht => ?_⟩
 rw [params] at ht
 have e : t = 22 ∨ t = 3 := by
  match j with
  | 0 => simp at ht; exact .inl ht.symm
  | 1 => simp at ht; exact .inr ht.symm
  | j + 2 => simp at ht
 rcases e with rfl | rfl
 ·exact (by kernel_rfl : Tryz.prog.wantsStandIn 22 = false)
 ·exact (by kernel_rfl : Tryz.prog.wantsStandIn 3 = false)
theorem card : Rows.DocMovesUptoCardSaid :=
 Claim7.holds_tied_plain_at .later [] _ _ _ _ said (fun _ h => by cases h) (by kernel_rfl) (fun _ h => by cases h) docMovesUpto_row_tie rfl ⟨rfl, rfl⟩ (by kernel_rfl) rfl plain (by kernel_rfl)
#print axioms card
end Go.Proofs.YthfopcdammlmfaaGreatDoor.docMoves
