/- THE LAW DocAsks answers true whatever the two values and the text, and leaves what was there as it was. Conditions: those of its row (the two listed tables; the form's own reach; a bulk of at most 1048576), no more; by the tie the card. -/
/- Merged by a program of ours: X3c X8. -/
import Derived.Test.YthfopcdammlmfaaGreatDoorE1
import Derived.Test.YthfopcdammlmfaaGreatDoorCards
import Derived.Test.YthfopcdammlmfaaGreatDoorTie
import Derived.ProofKit
import Derived.OpenShut
import Derived.Lib.LaidIn
import Derived.Deep.DeepHandedRow
import Derived.Carry
import Derived.Test.YthfopcdammlmfaaGreatDoorK3
import Derived.Test.YthfopcdammlmfaaGreatDoorK2
set_option maxRecDepth 10000
set_option linter.all false
set_option linter.unusedSimpArgs false
set_option linter.unusedVariables false
/- What the wraps of the rows ask, at this program. -/
namespace Go.Proofs.YthfopcdammlmfaaGreatDoor
open Go.ChangeShapes Go.WideShapes Go.ChangeAt Go.RowKit Go.Tm Go Go.Proofs
theorem own : ownKnob Tryz.prog.godebug = none := by kernel_rfl
theorem mixed : Tryz.prog.follows .mixedOrders = true := Tryz.checked.mixed
theorem begun : (((begin Tryz.prog (fun _ _ => 0) default).world.heap[2]?).bind Obj.row?).isSome = true := by kernel_rfl
theorem nglobals : Tryz.prog.globals.size = 3 := by kernel_rfl
theorem size_le {W : World} (h : W.ShapedOpen Tryz.prog) : 3 ≤ W.heap.size := by
  obtain ⟨⟨zero, t⟩, hz⟩ := Option.isSome_iff_exists.1 begun
  obtain ⟨cs, hc, _⟩ := h.1 2 zero t (by rw [nglobals]; omega) hz
  rcases Nat.lt_or_ge 2 W.heap.size with h' | h'
  · exact h'
  · simp [Array.getElem?_eq_none h'] at hc
def cellsOf (d : DataW Unit) : List Value :=
  match d with
  | .agg l => l.map fun
    | .lit (.int k n) => Value.int k n
    | _ => Value.nilFunc
  | _ => []
noncomputable def laidWorld (os : Os) : World :=
  let w0 := World.holding Tryz.prog os ⟨#[], #[], []⟩
  let put (h : Array Obj) (g : Nat) (cs : Array Value) : Array Obj := h.modify g fun
    | .cells _ t frozen => .cells cs t frozen
    | o => o
  let h1 := put w0.heap 1 (cellsOf Rows.laid_unicode_utf8_first).toArray
  let h2 := put h1 2 (([128, 191, 160, 191, 128, 159, 144, 191, 128, 143] ++ List.replicate 22 0 : List Int).map fun z => Value.int .u8 z).toArray
  { w0 with heap := h2 }
theorem laid_tabs {W : World} (hL : laidMetH Tryz.prog Rows.docAsksUptoRow.laid W) : TabsOk W := by
  have e1 : (Rows.laid_unicode_utf8_acceptRanges : DataW Unit) = Lib.acceptData := by kernel_rfl
  have e2 : Rows.laid_unicode_utf8_first = Lib.firstData := by kernel_rfl
  unfold Rows.docAsksUptoRow at hL
  simp only at hL
  rw [e1, e2] at hL
  exact utf8Tabs_of_readsT (U8Types.of196 laysValid) ⟨by kernel_rfl, by kernel_rfl, by kernel_rfl, by kernel_rfl, by kernel_rfl, by kernel_rfl, by kernel_rfl⟩ (Lib.laidMet.reads hL (.tail _ (.head _))) (Lib.laidMet.reads hL (.head _))
theorem wf_start (W : World) (vs : List Value) : WF (EW W vs) ⟨(EW W vs).base, .leaf⟩ := ⟨Nat.le_refl _, fun b o h => by simp [Heap.get, Tr.get_leaf] at h⟩
end Go.Proofs.YthfopcdammlmfaaGreatDoor
namespace Go.Proofs.YthfopcdammlmfaaGreatDoor.docAsks
open Go.ChangeShapes Go.WideShapes Go.ChangeAt Go.RowKit Go.Tm Go Go.Proofs
theorem params : Tryz.f5.params = #[25, 25, 9] := by kernel_rfl
theorem results : Tryz.f5.resultTypes = #[4] := by kernel_rfl
theorem str_read {H : Type} {enc : TypeId × Value → H} {W : World} {v : Value} {d : DataW H} {ps : List MemPlace} {base : Nat} {held : Bool} (h : DataW.Trod enc Tryz.prog W 0 (fun _ => true) held 9 v d ps) (hv : Value.okWide Tryz.prog W .any base 9 v) : ∃ x : ByteArray, v = .string x ∧ d = .lit (.string x.data.toList) := by
  obtain ⟨fuel, h⟩ := h
  have hc : v.cells.toList = [v] := by
    unfold Value.okWide at hv
    rw [Tryz.underlying9] at hv
    simp only [Cell.okWide, Tryz.underlying9, Cell.ok] at hv
    split at hv <;> first | rfl | exact hv.elim | (rename_i e1 e2; cases e1) | skip
    all_goals (simp_all [Value.cells])
  rw [hc] at h
  cases fuel with
  | zero => simp [DataW.trod] at h
  | succ f =>
  obtain ⟨x, q, a⟩ := trod_string Tryz.underlying9 h
  injection q with q
  exact ⟨x, q, a⟩
theorem renL_enc {n : Nat} : ∀ (l : List Value), (∀ v, v ∈ l → cl1 n v = true) → renL (fun b => ⟨b, 0, 0⟩) (l.map enc1) = l
  | [], _ => rfl
  | v :: l, h => by
    rw [List.map_cons, renL, ren_enc1 _ n (fun b _ => rfl) v (h v (by simp)), renL_enc l (fun v hv => h v (by simp [hv]))]
theorem scL_enc {n : Nat} : ∀ (l : List Value), (∀ v, v ∈ l → cl1 n v = true) → scL n (l.map enc1) = true
  | [], _ => rfl
  | v :: l, h => by
    rw [List.map_cons, scL, sc_enc1 _ _ (h v (by simp)), scL_enc l (fun v hv => h v (by simp [hv]))]; rfl
theorem agg_of {v : Value} (h : v.cells.toList.length = 5) : v = .agg v.cells.toList.toArray := by
  cases v <;> first | (simp [Value.cells] at h; done) | simp [Value.cells]
theorem contract (H : Type) (enc : TypeId × Value → H) (W : World) (base : Nat) (args : Array Value) (ds gs : List (DataW H)) (before : List MemPlace) (hs : W.ShapedOpen Tryz.prog) (hT : TabsOk W)
    (hval : ∀ (j : Nat) t v, Tryz.f5.params[j]? = some t → args[j]? = some v → Value.okWide Tryz.prog W .any base t v)
    (hbulk : Rows.uptoBulkAll (ds ++ gs) ≤ 1048576)
    (hwt : (DataW.weightsEach Tryz.prog (Tryz.f5.params.toList ++ (Rows.OpenSpec.upto Rows.docAsksSpec).bare.plain.varTypes Tryz.prog) (ds ++ gs)).all (· ≤ reachBytes) = true)
    (hW : DataW.Whole enc Tryz.prog Tryz.f5.params.toList Rows.docAsksSpec.vars false W args.toList ds gs before) :
    Calls Tryz.prog 5 args W fun e W' => ∃ v, e = .returned v ∧ Rows.docAsksSpec.post enc Tryz.prog Tryz.f5 false true false false W args v W' := by
  have hW' := hW
  obtain ⟨p, q, hA0, hV, rfl, hfz, hnd⟩ := hW
  rw [params] at hA0 hval hwt
  obtain ⟨v0, v1, v2, d0, d1, d2, p0, p1, p2, rfl, rfl, rfl, h0, h1, h2⟩ := trodAll_three hA0
  obtain ⟨rfl, rfl⟩ := trodVars_none hV
  rw [List.append_assoc p0 p1 p2] at hW'
  obtain ⟨p, rfl, hd2⟩ := str_read h2 (hval 2 _ v2 rfl rfl)
  have hwt' : ∀ n, n ∈ DataW.weightsEach Tryz.prog (25 :: 25 :: 9 :: (Rows.OpenSpec.upto Rows.docAsksSpec).bare.plain.varTypes Tryz.prog) (d0 :: d1 :: d2 :: []) → n ≤ reachBytes := by
    intro n hn
    have := List.all_eq_true.1 hwt n hn
    simpa using this
  simp only [DataW.weightsEach, List.mem_append] at hwt'
  have hwt0 : ∀ n, n ∈ d0.weights Tryz.prog 25 → n ≤ reachBytes := fun n hn => hwt' n (.inl hn)
  have hwt1 : ∀ n, n ∈ d1.weights Tryz.prog 25 → n ≤ reachBytes := fun n hn => hwt' n (.inr (.inl hn))
  have hp : p.size ≤ 140737488355328 := str_size (hwt' _ (.inr (.inr (.inl (by rw [hd2]; simp [DataW.weights])))))
  obtain ⟨l, hl⟩ : ∃ l, l = v0.cells.toList := ⟨_, rfl⟩
  obtain ⟨m, hm⟩ : ∃ m, m = v1.cells.toList := ⟨_, rfl⟩
  obtain ⟨V, hrep, hbd, hpl⟩ := val1_read (W := W) (vs := l ++ m) (Bd := 1048576) h0 hwt0 (fun x hx => topN_arg (List.mem_append_left _ (by rw [hl]; exact hx))) (by
    have := bulk_mem (l := [d0, d1, d2] ++ []) (d := d0) (by simp)
    exact Nat.le_trans this hbulk)
  obtain ⟨V2, hrep2, hbd2, hpl2⟩ := val1_read (W := W) (vs := l ++ m) (Bd := 1048576) h1 hwt1 (fun x hx => topN_arg (List.mem_append_right _ (by rw [hm]; exact hx))) (by
    have := bulk_mem (l := [d0, d1, d2] ++ []) (d := d1) (by simp)
    exact Nat.le_trans this hbulk)
  rw [← hl] at hrep hpl
  rw [← hm] at hrep2 hpl2
  have hl5 : l.length = 5 := by
    obtain ⟨sl, sf, cl, cf, hc, _⟩ := hrep.cells
    have := congrArg List.length hc
    simpa using this
  have hm5 : m.length = 5 := by
    obtain ⟨sl, sf, cl, cf, hc, _⟩ := hrep2.cells
    have := congrArg List.length hc
    simpa using this
  have hv0 : v0 = .agg l.toArray := by rw [hl]; exact agg_of (by rw [← hl]; exact hl5)
  have hv1 : v1 = .agg m.toArray := by rw [hm]; exact agg_of (by rw [← hm]; exact hm5)
  have hsm : ∀ {V : Vl}, allV (boundV 1048576) V = true → allV smallV V = true := fun {V} hbd => allV_imp2 (fun v hv => by
    simp only [boundV, smallV, Bool.and_eq_true, decide_eq_true_eq, List.all_eq_true] at hv ⊢
    exact ⟨by omega, fun x hx => by have := hv.2 x hx; omega⟩) V.sz V (Nat.le_refl _) hbd
  have hbl : ∀ {V : Vl}, allV (boundV 1048576) V = true → V.sz ≤ 5000 → (bytesV V).length ≤ 1000000000000 := fun {V} hbd hz => by
    have h1 := bytes_bd V.sz V (Nat.le_refl _) hbd
    have h2 : V.sz * (4 * 1048576 + 64) ≤ 5000 * (4 * 1048576 + 64) := Nat.mul_le_mul_right _ hz
    omega
  obtain ⟨r, h', k, ⟨rfl, hkp, hwf⟩, hk⟩ := asks_at (EW_ok W (l ++ m)) (wf_start W (l ++ m)) (noMem_frz _ _) hrep hrep2 (hsm hbd) (hsm hbd2) (hbl hbd) (hbl hbd2) hp
  have hcl1 : ∀ v, v ∈ l → cl1 (EW W (l ++ m)).base v = true := fun v hv => cl1_of (List.all_eq_true.1 hpl v hv) (topN_arg (List.mem_append_left _ hv))
  have hcl2 : ∀ v, v ∈ m → cl1 (EW W (l ++ m)).base v = true := fun v hv => cl1_of (List.all_eq_true.1 hpl2 v hv) (topN_arg (List.mem_append_right _ hv))
  have hlo : ∀ b o, b < (EW W (l ++ m)).base → (EW W (l ++ m)).ro b = some o → b < W.heap.size := fun b o _ hb => by
    replace hb : W.heap[b]? = some o := hb
    rcases Nat.lt_or_ge b W.heap.size with h | h
    · exact h
    · rw [Array.getElem?_eq_none h] at hb; cases hb
  have hpo := prog_ok W (l ++ m) (size_le hs)
  have hcall := call_open hpo (known_ok (l ++ m) hT) (iter_ok (EW_ok W (l ++ m)) hpo) mixed (hk k (Nat.le_refl _)) (fun x hx => by
      rcases List.mem_cons.1 hx with rfl | hx
      · exact scL_enc l hcl1
      · rcases List.mem_cons.1 hx with rfl | hx
        · exact scL_enc m hcl2
        · simp only [List.mem_singleton] at hx; subst hx; rfl)
    (vs := [v0, v1, .string p]) (by
      have e : ren (fun b => ⟨b, 0, 0⟩) (.agg (l.map enc1).toArray) = v0 := by
        rw [hv0]
        show Value.agg (renA _ ⟨l.map enc1⟩) = _
        rw [renA, renL_enc l hcl1]
      have e' : ren (fun b => ⟨b, 0, 0⟩) (.agg (m.map enc1).toArray) = v1 := by
        rw [hv1]
        show Value.agg (renA _ ⟨m.map enc1⟩) = _
        rw [renA, renL_enc m hcl2]
      rw [List.map_cons, List.map_cons, List.map_cons, List.map_nil, e, e']; rfl) (fun ρ => rfl) hlo (fun b o _ hb => hb)
  have hlt : ∀ x ∈ (p0 ++ (p1 ++ p2)) ++ [], x.block < W.heap.size := fun x hx => by simpa using hW'.lt x hx
  refine hcall.mono ?_
  rintro e W' ⟨rfl, bel⟩
  refine ⟨_, rfl, _, _, _, [], p0 ++ (p1 ++ p2), [], hW', ?_, ?_, rfl, bel.frame _, fun h => by cases h⟩
  · rw [results]; exact trodAll_cons_mk (shut_bool Tryz.underlying4 _) trodAll_mk0
  · rw [params]
    exact trodAll_mk3 (Below.trod (by kernel_rfl) (by kernel_rfl) (of_decide_eq_true (by kernel_rfl)) h0 bel (fun x hx => hlt x (by simp [hx]))) (Below.trod (by kernel_rfl) (by kernel_rfl) (of_decide_eq_true (by kernel_rfl)) h1 bel (fun x hx => hlt x (by simp [hx]))) (Below.trod (by kernel_rfl) (by kernel_rfl) (of_decide_eq_true (by kernel_rfl)) h2 bel (fun x hx => hlt x (by simp [hx])))
theorem laid_met (os : Os) (args : Array Value) : laidMet Tryz.prog Rows.docAsksUptoRow.laid ((laidWorld os).forCall (fun _ _ => 0) ⟨#[], args, []⟩).memory :=
  (LaidIn.of_run (l := Rows.docAsksUptoRow.laid) [1, 2] 8 (by kernel_rfl) (by kernel_rfl) (by kernel_rfl) (by kernel_rfl)).met
def wit : Array Value := #[.agg #[.int .i64 0, .int .i64 0, .string .empty, .slice none 0 0, .slice none 0 0], .agg #[.int .i64 0, .int .i64 0, .string .empty, .slice none 0 0, .slice none 0 0], .string .empty]
theorem reads (os : Os) {H : Type} (enc : TypeId × Value → H) : ∃ places, DataW.whole enc Tryz.prog ((laidWorld os).forCall (fun _ _ => 0) ⟨#[], wit, []⟩).memory Tryz.f5.params.toList Rows.docAsksSpec.vars false wit.toList 8 = some ([.agg [.lit (.int .i64 0), .lit (.int .i64 0), .lit (.string []), .nil, .nil], .agg [.lit (.int .i64 0), .lit (.int .i64 0), .lit (.string []), .nil, .nil], .lit (.string [])], [], places) :=
  ⟨[], by kernel_rfl⟩
theorem lifted (os : Os) (started : os.Started) (H : Type) (enc : TypeId × Value → H) (F : Stop.Interp) :
    ReturnsInHanded {} Tryz.checked os 5 .any ((Rows.OpenSpec.upto Rows.docAsksSpec).preRow enc Tryz.prog Tryz.f5 Rows.docAsksUptoRow.domain false Rows.docAsksUptoRow.laid) (((Rows.OpenSpec.upto Rows.docAsksSpec).at F).post enc Tryz.prog Tryz.f5 false true false false) := by
  obtain ⟨places, hx⟩ := reads os enc
  refine returnsInHanded_of_row (C := Tryz.checked) (s := Rows.OpenSpec.upto Rows.docAsksSpec) own started (by kernel_rfl) Tryz.func5
    (witness_row_at (enc := enc) (C := Tryz.checked) false (laidWorld os) wit rfl (by kernel_rfl) (by kernel_rfl) (by kernel_rfl)
      (OpenSpec.preRow_of_cond 8 hx (by kernel_rfl) (fun k hk => by cases hk; rfl) (by kernel_rfl) (laid_met os _))) ?_
  intro W base args ds gs before hval hW _ hcond hwt hL hs _
  exact contract H enc W base args ds gs before hs (laid_tabs hL) hval (of_decide_eq_true (hcond _ rfl)) hwt hW
theorem said : Rows.DocAsksUptoSaid :=
  OpenClaim.holds_of_cond 5 Tryz.f5 rfl rfl rfl rfl rfl rfl rfl ⟨rfl, rfl, rfl, rfl, rfl⟩ rfl rfl rfl rfl rfl (by kernel_rfl) Tryz.func5 (by kernel_rfl)
    (of_decide_eq_true (by kernel_rfl)) (by unfold Func.isWrapper; first | (rw [if_pos (by decide +kernel)]; kernel_rfl) | (rw [if_neg (by decide +kernel)]; exact ⟨rfl, rfl⟩))
    (fun os started H enc _ F => by rw [OpenClaim.pre_eq_preRow]; exact lifted os started H enc F)
theorem plain (f : FuncId) (fn : Func) (hf : Tryz.pinned.checked.prog.funcNamed Tryz.f5.name = some f) (hfn : Tryz.pinned.checked.prog.funcs[f]? = some fn) :
    false = Tryz.pinned.checked.prog.looks [] ∧ ∀ (j : Nat) t, fn.params[j]? = some t → Tryz.pinned.checked.prog.wantsStandIn t = false := by
  obtain rfl : f = 5 := Option.some.inj ((show Tryz.prog.funcNamed Tryz.f5.name = some 5 by kernel_rfl).symm.trans hf) |>.symm
  obtain rfl : fn = Tryz.f5 := (Option.some.inj (Tryz.func5.symm.trans hfn)).symm
  refine ⟨by kernel_rfl, fun j t ht => ?_⟩
  rw [params] at ht
  have e : t = 25 ∨ t = 9 := by
    match j with
    | 0 => simp at ht; exact .inl ht.symm
    | 1 => simp at ht; exact .inl ht.symm
    | 2 => simp at ht; exact .inr ht.symm
    | j + 3 => simp at ht
  rcases e with rfl | rfl
  · exact (by kernel_rfl : Tryz.prog.wantsStandIn 25 = false)
  · exact (by kernel_rfl : Tryz.prog.wantsStandIn 9 = false)
theorem card : Rows.DocAsksUptoCardSaid :=
  Claim7.holds_tied_plain_at .later [] _ _ _ _ said (fun _ h => by cases h) (by kernel_rfl) (fun _ h => by cases h) docAsksUpto_row_tie rfl ⟨rfl, rfl⟩ (by kernel_rfl) rfl plain (by kernel_rfl)
#print axioms card
end Go.Proofs.YthfopcdammlmfaaGreatDoor.docAsks
