/- THE LAW VrCalm answers true whatever the number and the clients, and leaves what was there as it was. Conditions: those of its row (the listed variables; the form's own reach), no more; by the tie the card. -/
import Derived.Test.YthdgobcpefcolaaGreatDoorG15
import Derived.Test.YthdgobcpefcolaaGreatDoorG33
set_option maxRecDepth 10000
set_option linter.all false
set_option linter.unusedSimpArgs false
set_option linter.unusedVariables false
namespace Go.Proofs.YthdgobcpefcolaaGreatDoor.vrCalm
open Go.ChangeShapes Go.WideShapes Go.ChangeAt Go.RowKit Go.Tm Go Go.Proofs
theorem params : Tryz.f4.params = #[3, 53] := by kernel_rfl
theorem results : Tryz.f4.resultTypes = #[4] := by kernel_rfl
theorem contract (H : Type) (enc : TypeId × Value → H) (W : World) (base : Nat) (args : Array Value) (ds gs : List (DataW H)) (before : List MemPlace) (hs : W.ShapedOpen Tryz.prog)
    (hval : ∀ (j : Nat) t v, Tryz.f4.params[j]? = some t → args[j]? = some v → Value.okWide Tryz.prog W .any base t v)
    (hwt : (DataW.weightsEach Tryz.prog (Tryz.f4.params.toList ++ (OpenSpec.ofChange Rows.vrCalmSpec).bare.plain.varTypes Tryz.prog) (ds ++ gs)).all (· ≤ reachBytes) = true)
    (hW : DataW.Whole enc Tryz.prog Tryz.f4.params.toList Rows.vrCalmSpec.vars false W args.toList ds gs before) :
    Calls Tryz.prog 4 args W fun e W' => ∃ v, e = .returned v ∧ Rows.vrCalmSpec.post enc Tryz.prog Tryz.f4 false true false false W args v W' := by
  have hW' := hW
  obtain ⟨p, q, hA0, hV, rfl, hfz, hnd⟩ := hW
  rw [params] at hA0 hval hwt
  obtain ⟨v0, v1, d0, d1, p0, p1, rfl, rfl, rfl, h0, h1⟩ := trodAll_two hA0
  obtain ⟨rfl, rfl⟩ := trodVars_none hV
  obtain ⟨a, rfl⟩ := arg_int h0 (hval 0 _ v0 rfl rfl)
  have hc1 := slice_cells Tryz.underlying53 (hval 1 _ v1 rfl rfl)
  have hwt1 : ∀ n, n ∈ d1.weights Tryz.prog 53 → n ≤ reachBytes := by
    intro n hn
    have := List.all_eq_true.1 hwt n (by
      show n ∈ DataW.weightsEach Tryz.prog (3 :: 53 :: _) (d0 :: d1 :: _)
      unfold DataW.weightsEach DataW.weightsEach
      exact List.mem_append_right _ (List.mem_append_left _ hn))
    simpa using this
  obtain ⟨l, hsl, hpl⟩ := bytes_read (W := W) (vs := [v1]) h1 hwt1 (by simp) hc1
  obtain ⟨r, h', k, rfl, hk⟩ := calm_at (EW_ok W [v1]) (wf_start W [v1]) (noMem_frz _ _) (f := a) hsl
  have hcl1 : cl1 (EW W [v1]).base v1 = true := cl1_of hpl (topN_arg (by simp))
  have hlo : ∀ b o, b < (EW W [v1]).base → (EW W [v1]).ro b = some o → b < W.heap.size := fun b o _ hb => by
    replace hb : W.heap[b]? = some o := hb
    rcases Nat.lt_or_ge b W.heap.size with h | h
    · exact h
    · rw [Array.getElem?_eq_none h] at hb; cases hb
  have hpo := prog_ok W [v1] (size_le hs)
  have hcall := call_open hpo (known_none rfl) (iter_none (EW_ok W [v1])) mixed (hk k (Nat.le_refl _)) (fun x hx => by
      rcases List.mem_cons.1 hx with rfl | hx
      · rfl
      · simp only [List.mem_singleton] at hx; subst hx; exact sc_enc1 _ _ hcl1)
    (vs := [.int .i64 a, v1]) (by rw [List.map_cons, List.map_cons, List.map_nil, ren_enc1 _ _ (fun b _ => rfl) v1 hcl1]; rfl) (fun ρ => rfl) hlo (fun b o _ hb => hb)
  have hlt : ∀ x ∈ (p0 ++ p1) ++ [], x.block < W.heap.size := fun x hx => by simpa using hW'.lt x hx
  refine hcall.mono ?_
  rintro e W' ⟨rfl, bel⟩
  refine ⟨_, rfl, _, _, _, [], p0 ++ p1, [], hW', ?_, ?_, rfl, bel.frame _, fun h => by cases h⟩
  · rw [results]; exact trodAll_cons_mk (shut_bool Tryz.underlying4 _) trodAll_mk0
  · rw [params]
    exact trodAll_mk2 (Below.trod (by kernel_rfl) (by kernel_rfl) (of_decide_eq_true (by kernel_rfl)) h0 bel (fun x hx => hlt x (by simp [hx]))) (Below.trod (by kernel_rfl) (by kernel_rfl) (of_decide_eq_true (by kernel_rfl)) h1 bel (fun x hx => hlt x (by simp [hx])))
noncomputable def laidWorld (os : Os) : World := World.laidAll Tryz.prog os Rows.vrCalmRow.laid
theorem laid_met (os : Os) (args : Array Value) : laidMet Tryz.prog Rows.vrCalmRow.laid ((laidWorld os).forCall (fun _ _ => 0) ⟨#[], args, []⟩).memory :=
  laidMet_laidAll args (by kernel_rfl) (by kernel_rfl)
/-- The witness: nought, and no clients. -/
def wit : Array Value := #[.int .i64 0, .slice none 0 0]
theorem reads (os : Os) {H : Type} (enc : TypeId × Value → H) : ∃ places, DataW.whole enc Tryz.prog ((laidWorld os).forCall (fun _ _ => 0) ⟨#[], wit, []⟩).memory Tryz.f4.params.toList Rows.vrCalmSpec.vars false wit.toList 8 = some ([.lit (.int .i64 0), .nil], [], places) :=
  ⟨[], by kernel_rfl⟩
theorem lifted (os : Os) (started : os.Started) (H : Type) (enc : TypeId × Value → H) (F : Stop.Interp) :
    ReturnsInHanded {} Tryz.checked os 4 .any ((OpenSpec.ofChange Rows.vrCalmSpec).preRow enc Tryz.prog Tryz.f4 Rows.vrCalmRow.domain false Rows.vrCalmRow.laid) (((OpenSpec.ofChange Rows.vrCalmSpec).at F).post enc Tryz.prog Tryz.f4 false true false false) := by
  obtain ⟨places, hx⟩ := reads os enc
  refine returnsInHanded_of_row (C := Tryz.checked) (s := OpenSpec.ofChange Rows.vrCalmSpec) own started (by kernel_rfl) Tryz.func4
    (witness_row_at (enc := enc) (C := Tryz.checked) false (laidWorld os) wit rfl (by kernel_rfl) (by kernel_rfl) (by kernel_rfl)
      (OpenSpec.preRow_of_cond 8 hx (by kernel_rfl) (fun k hk => by cases hk) (by kernel_rfl) (laid_met os _))) ?_
  intro W base args ds gs before hval hW _ _ hwt hL hs _
  exact contract H enc W base args ds gs before hs hval hwt hW
theorem said : Rows.VrCalmSaid :=
  OpenClaim.holds_of_cond 4 Tryz.f4 rfl rfl rfl rfl rfl rfl rfl ⟨rfl, rfl, rfl, rfl, rfl⟩ rfl rfl rfl rfl rfl (by kernel_rfl) Tryz.func4 (by kernel_rfl)
    (of_decide_eq_true (by kernel_rfl)) (by unfold Func.isWrapper; first | (rw [if_pos (by decide +kernel)]; kernel_rfl) | (rw [if_neg (by decide +kernel)]; exact ⟨rfl, rfl⟩))
    (fun os started H enc _ F => by rw [OpenClaim.pre_eq_preRow]; exact lifted os started H enc F)
/-- No parameter wants a stand-in; the program's own looks: what the card asks. -/
theorem plain (f : FuncId) (fn : Func) (hf : Tryz.pinned.checked.prog.funcNamed Tryz.f4.name = some f) (hfn : Tryz.pinned.checked.prog.funcs[f]? = some fn) :
    true = Tryz.pinned.checked.prog.looks [] ∧ ∀ (j : Nat) t, fn.params[j]? = some t → Tryz.pinned.checked.prog.wantsStandIn t = false := by
  obtain rfl : f = 4 := Option.some.inj ((show Tryz.prog.funcNamed Tryz.f4.name = some 4 by kernel_rfl).symm.trans hf) |>.symm
  obtain rfl : fn = Tryz.f4 := (Option.some.inj (Tryz.func4.symm.trans hfn)).symm
  refine ⟨by kernel_rfl, fun j t ht => ?_⟩
  rw [params] at ht
  have e : t = 3 ∨ t = 53 := by
    match j with
    | 0 => simp at ht; exact .inl ht.symm
    | 1 => simp at ht; exact .inr ht.symm
    | j + 2 => simp at ht
  rcases e with rfl | rfl
  · exact (by kernel_rfl : Tryz.prog.wantsStandIn 3 = false)
  · exact (by kernel_rfl : Tryz.prog.wantsStandIn 53 = false)
theorem card : Rows.VrCalmCardSaid :=
  Claim7.holds_tied_plain_at .later [] _ _ _ _ said (fun _ h => by cases h) (by kernel_rfl) (fun _ h => by cases h) vrCalm_row_tie rfl ⟨rfl, rfl⟩ (by kernel_rfl) rfl plain (by kernel_rfl)
#print axioms card
end Go.Proofs.YthdgobcpefcolaaGreatDoor.vrCalm
