/- THE LAW DocForms answers true whatever the deeds and the number, and leaves what was there as it was. Conditions: those of its row (the two listed tables; the form's own reach), no more; by the tie the card. -/
/- Merged by a program of ours: X3 X5 X6. -/
import Derived.Test.YthfopcdammlmfaaDoorE1
import Derived.Test.YthfopcdammlmfaaDoorCards
import Derived.Test.YthfopcdammlmfaaDoorTie
import Derived.ProofKit
import Derived.OpenShut
import Derived.Lib.LaidIn
import Derived.Deep.DeepHandedRow
import Derived.Carry
import Derived.Test.YthfopcdammlmfaaDoorF5
set_option maxRecDepth 10000
set_option linter.all false
set_option linter.unusedSimpArgs false
set_option linter.unusedVariables false
/- What the wraps of the rows ask, at this program. -/
namespace Go.Proofs.YthfopcdammlmfaaDoor
open Go.ChangeShapes Go.WideShapes Go.ChangeAt Go.RowKit Go.Tm Go Go.Proofs
theorem own : ownKnob Tryd.prog.godebug = none := by kernel_rfl
theorem mixed : Tryd.prog.follows .mixedOrders = true := Tryd.checked.mixed
theorem begun : (((begin Tryd.prog (fun _ _ => 0) default).world.heap[1]?).bind Obj.row?).isSome = true := by kernel_rfl
theorem nglobals : Tryd.prog.globals.size = 2 := by kernel_rfl
theorem size_le {W : World} (h : W.ShapedOpen Tryd.prog) : 2 ≤ W.heap.size := by
  obtain ⟨⟨zero, t⟩, hz⟩ := Option.isSome_iff_exists.1 begun
  obtain ⟨cs, hc, _⟩ := h.1 1 zero t (by rw [nglobals]; omega) hz
  rcases Nat.lt_or_ge 1 W.heap.size with h' | h'
  · exact h'
  · simp [Array.getElem?_eq_none h'] at hc
/-- The cells of a row of numbers. -/
def cellsOf (d : DataW Unit) : List Value :=
  match d with
  | .agg l => l.map fun
    | .lit (.int k n) => Value.int k n
    | _ => Value.nilFunc
  | _ => []
/-- THE WITNESS: the settled world, the two variables holding what their initialisers lay. -/
noncomputable def laidWorld (os : Os) : World :=
  let w0 := World.holding Tryd.prog os ⟨#[], #[], []⟩
  let put (h : Array Obj) (g : Nat) (cs : Array Value) : Array Obj := h.modify g fun
    | .cells _ t frozen => .cells cs t frozen
    | o => o
  let h1 := put w0.heap 0 (cellsOf Rows.laid_unicode_utf8_first).toArray
  let h2 := put h1 1 (([128, 191, 160, 191, 128, 159, 144, 191, 128, 143] ++ List.replicate 22 0 : List Int).map fun z => Value.int .u8 z).toArray
  { w0 with heap := h2 }
theorem laid_tabs {W : World} (hL : laidMetH Tryd.prog Rows.docKnownRow.laid W) : TabsOk W := by
  have e1 : (Rows.laid_unicode_utf8_acceptRanges : DataW Unit) = Lib.acceptData := by kernel_rfl
  have e2 : Rows.laid_unicode_utf8_first = Lib.firstData := by kernel_rfl
  unfold Rows.docKnownRow at hL
  simp only at hL
  rw [e1, e2] at hL
  exact utf8Tabs_of_readsT (U8Types.of196 laysValid) ⟨by kernel_rfl, by kernel_rfl, by kernel_rfl, by kernel_rfl, by kernel_rfl, by kernel_rfl, by kernel_rfl⟩ (Lib.laidMet.reads hL (.tail _ (.head _))) (Lib.laidMet.reads hL (.head _))
theorem wf_start (W : World) (vs : List Value) : WF (EW W vs) ⟨(EW W vs).base, .leaf⟩ := ⟨Nat.le_refl _, fun b o h => by simp [Heap.get, Tr.get_leaf] at h⟩
theorem slice_cells {W : World} {base : Nat} {t e : TypeId} {v : Value} (hu : Tryd.prog.underlying t = some (.slice e)) (h : Value.okWide Tryd.prog W .any base t v) : v.cells.toList = [v] := by
  unfold Value.okWide at h
  rw [hu] at h
  simp only [Cell.okWide, hu, Cell.ok] at h
  split at h <;> first | rfl | exact h.elim | (rename_i e1 e2; cases e1) | skip
  all_goals (simp_all [Value.cells])
end Go.Proofs.YthfopcdammlmfaaDoor
/- THE LAW DocForms answers true whatever the deeds and the number, and leaves what was there as it was. Conditions: those of its row (the two listed tables; the form's own reach), no more; by the tie the card. -/
namespace Go.Proofs.YthfopcdammlmfaaDoor
open Go.Tm Go
theorem co51 : Tryd.prog.cellsOf 51 = 6 := by kernel_rfl
theorem co37 : Tryd.prog.cellsOf 37 = 1 := by kernel_rfl
theorem list6 {α : Type} {l : List α} {a b c d e f : α} (hl : l.length = 6) (h0 : l[0]? = some a) (h1 : l[1]? = some b) (h2 : l[2]? = some c) (h3 : l[3]? = some d) (h4 : l[4]? = some e) (h5 : l[5]? = some f) : l = [a, b, c, d, e, f] := by
  match l, hl with
  | [x0, x1, x2, x3, x4, x5], _ => simp at h0 h1 h2 h3 h4 h5; subst h0; subst h1; subst h2; subst h3; subst h4; subst h5; rfl
theorem dds_of : ∀ (n : Nat) (cl : List Value), cl.length = n * 6 → (∀ i, i < n → ∃ d : Dd, d.ok ∧ (cl.drop (i * 6)).take 6 = d.cells) → ∃ l : List Dd, l.length = n ∧ (∀ d, d ∈ l → d.ok) ∧ ddCells l = cl
  | 0, cl, hl, _ => ⟨[], rfl, fun d h => (by cases h), by have : cl = [] := List.eq_nil_of_length_eq_zero (by omega); rw [this]; rfl⟩
  | n + 1, cl, hl, h => by
    obtain ⟨d, hd, he⟩ := h 0 (by omega)
    rw [Nat.zero_mul, List.drop_zero] at he
    obtain ⟨l, h1, h2, h3⟩ := dds_of n (cl.drop 6) (by simp; omega) (fun i hi => by
      obtain ⟨d', hd', he'⟩ := h (i + 1) (by omega)
      refine ⟨d', hd', ?_⟩
      rw [List.drop_drop, show 6 + i * 6 = (i + 1) * 6 by omega]; exact he')
    refine ⟨d :: l, by simp [h1], fun x hx => ?_, ?_⟩
    · rcases List.mem_cons.1 hx with rfl | hx
      · exact hd
      · exact h2 x hx
    · show d.cells ++ ddCells l = cl
      rw [h3, ← he, List.take_append_drop]
section
variable {H : Type} {enc : TypeId × Value → H} {W : World} {vs : List Value} {held : Bool}
theorem dd_read : ∀ fuel, ElemOk (H := H) (EW W vs) 6 (fun c => ∃ d : Dd, d.ok ∧ c = d.cells) (DataW.trod enc Tryd.prog W 0 (fun _ => true) held fuel 51) 51 := by
  intro fuel cs x h hw hb
  obtain ⟨d, ps⟩ := x
  cases fuel with
  | zero => simp [DataW.trod] at h
  | succ fuel =>
  obtain ⟨hl, xs, hxs, hd⟩ := trod_struct Tryd.underlying51 h
  rw [co51] at hl
  obtain ⟨hxl, hat⟩ := mapM_at _ _ _ hxs
  obtain ⟨y0, e0, h0⟩ := hat 0 _ rfl
  obtain ⟨y1, e1, h1⟩ := hat 1 _ rfl
  obtain ⟨y2, e2, h2⟩ := hat 2 _ rfl
  obtain ⟨y3, e3, h3⟩ := hat 3 _ rfl
  obtain ⟨y4, e4, h4⟩ := hat 4 _ rfl
  obtain ⟨y5, e5, h5⟩ := hat 5 _ rfl
  simp only [co3, co37] at h0 h1 h2 h3 h4 h5
  obtain ⟨v0, v1, v2, v3, v4, v5, rfl⟩ : ∃ v0 v1 v2 v3 v4 v5, cs = [v0, v1, v2, v3, v4, v5] := by
    match cs, hl with
    | [a, b, c, d, e, f], _ => exact ⟨a, b, c, d, e, f, rfl⟩
  simp only [List.drop_succ_cons, List.drop_zero, List.take_succ_cons, List.take_zero] at h0 h1 h2 h3 h4 h5
  cases fuel with
  | zero => simp [DataW.trod] at h0
  | succ f =>
  obtain ⟨d0, p0⟩ := y0
  obtain ⟨d1, p1⟩ := y1
  obtain ⟨d2, p2⟩ := y2
  obtain ⟨d3, p3⟩ := y3
  obtain ⟨d4, p4⟩ := y4
  obtain ⟨d5, p5⟩ := y5
  obtain ⟨n0, q0, a0, b0⟩ := trod_int Tryd.underlying3 h0
  obtain ⟨n1, q1, a1, b1⟩ := trod_int Tryd.underlying3 h1
  obtain ⟨n2, q2, a2, b2⟩ := trod_int Tryd.underlying3 h2
  obtain ⟨n3, q3, a3, b3⟩ := trod_int Tryd.underlying3 h3
  obtain ⟨n4, q4, a4, b4⟩ := trod_int Tryd.underlying3 h4
  obtain ⟨n5, q5, a5, b5⟩ := trod_int Tryd.underlying37 h5
  injection q0 with q0; subst q0
  injection q1 with q1; subst q1
  injection q2 with q2; subst q2
  injection q3 with q3; subst q3
  injection q4 with q4; subst q4
  injection q5 with q5; subst q5
  have m1 : IntKind.i64.min = -9223372036854775808 := rfl
  have m2 : IntKind.i64.max = 9223372036854775807 := rfl
  have m3 : IntKind.u64.min = 0 := rfl
  have m4 : IntKind.u64.max = 18446744073709551615 := rfl
  rw [m1] at a0 a1 a2 a3 a4
  rw [m2] at b0 b1 b2 b3 b4
  rw [m3] at a5
  rw [m4] at b5
  refine ⟨⟨⟨n0, n1, n2, n3, n4, n5.toNat⟩, ⟨⟨a0, b0⟩, ⟨a1, b1⟩, ⟨a2, b2⟩, ⟨a3, b3⟩, ⟨a4, b4⟩, by simp only; omega⟩, ?_⟩, rfl⟩
  simp only [Dd.cells, List.map_cons, List.map_nil, enc1]
  rw [Int.toNat_of_nonneg a5]
theorem dds_read {v : Value} {d : DataW H} {ps : List MemPlace} (h : DataW.Trod enc Tryd.prog W 0 (fun _ => true) held 49 v d ps) (hw : ∀ n, n ∈ d.weights Tryd.prog 49 → n ≤ reachBytes) (hv : v ∈ vs) (hc : v.cells.toList = [v]) :
    ∃ l : List Dd, (∀ d, d ∈ l → d.ok) ∧ Sl (EW W vs) noMem 6 l.length (ddCells l) (enc1 v) ∧ plainC v = true := by
  obtain ⟨fuel, h⟩ := h
  rw [hc] at h
  cases fuel with
  | zero => simp [DataW.trod] at h
  | succ f =>
  obtain ⟨ln, lc, l1, l2, l3, l4, l5⟩ := slice_read (W := W) (vs := vs) (by omega) co51 (dd_read f) Tryd.underlying49 h hw (topN_arg hv)
  obtain ⟨L, hL1, hL2, hL3⟩ := dds_of ln lc l2 (fun i hi => by obtain ⟨d, h1, h2⟩ := l1 i hi; exact ⟨d, h1, h2⟩)
  exact ⟨L, hL2, by rw [hL1, hL3]; exact l3, l5⟩
end
end Go.Proofs.YthfopcdammlmfaaDoor
namespace Go.Proofs.YthfopcdammlmfaaDoor.docForms
open Go.ChangeShapes Go.WideShapes Go.ChangeAt Go.RowKit Go.Tm Go Go.Proofs
theorem params : Tryd.f5.params = #[49, 37] := by kernel_rfl
theorem results : Tryd.f5.resultTypes = #[4] := by kernel_rfl
theorem u64_read {H : Type} {enc : TypeId × Value → H} {W : World} {v : Value} {d : DataW H} {ps : List MemPlace} {base : Nat} {held : Bool} (h : DataW.Trod enc Tryd.prog W 0 (fun _ => true) held 37 v d ps) (hv : Value.okWide Tryd.prog W .any base 37 v) : ∃ x : Nat, v = .int .u64 (x : Int) ∧ x < 18446744073709551616 := by
  obtain ⟨fuel, h⟩ := h
  have hc : v.cells.toList = [v] := by
    unfold Value.okWide at hv
    rw [Tryd.underlying37] at hv
    simp only [Cell.okWide, Tryd.underlying37, Cell.ok] at hv
    split at hv <;> first | rfl | exact hv.elim | (rename_i e1 e2; cases e1) | skip
    all_goals (simp_all [Value.cells])
  rw [hc] at h
  cases fuel with
  | zero => simp [DataW.trod] at h
  | succ f =>
  obtain ⟨n, q, a, b⟩ := trod_int Tryd.underlying37 h
  injection q with q
  have m3 : IntKind.u64.min = 0 := rfl
  have m4 : IntKind.u64.max = 18446744073709551615 := rfl
  rw [m3] at a
  rw [m4] at b
  exact ⟨n.toNat, by rw [q, Int.toNat_of_nonneg a], by omega⟩
theorem contract (H : Type) (enc : TypeId × Value → H) (W : World) (base : Nat) (args : Array Value) (ds gs : List (DataW H)) (before : List MemPlace) (hs : W.ShapedOpen Tryd.prog) (hT : TabsOk W)
    (hval : ∀ (j : Nat) t v, Tryd.f5.params[j]? = some t → args[j]? = some v → Value.okWide Tryd.prog W .any base t v)
    (hwt : (DataW.weightsEach Tryd.prog (Tryd.f5.params.toList ++ (OpenSpec.ofChange Rows.docFormsSpec).bare.plain.varTypes Tryd.prog) (ds ++ gs)).all (· ≤ reachBytes) = true)
    (hW : DataW.Whole enc Tryd.prog Tryd.f5.params.toList Rows.docFormsSpec.vars false W args.toList ds gs before) :
    Calls Tryd.prog 5 args W fun e W' => ∃ v, e = .returned v ∧ Rows.docFormsSpec.post enc Tryd.prog Tryd.f5 false true false false W args v W' := by
  have hW' := hW
  obtain ⟨p, q, hA0, hV, rfl, hfz, hnd⟩ := hW
  rw [params] at hA0 hval hwt
  obtain ⟨v0, v1, d0, d1, p0, p1, rfl, rfl, rfl, h0, h1⟩ := trodAll_two hA0
  obtain ⟨rfl, rfl⟩ := trodVars_none hV
  have hc0 := slice_cells Tryd.underlying49 (hval 0 _ v0 rfl rfl)
  obtain ⟨x, rfl, hx⟩ := u64_read h1 (hval 1 _ v1 rfl rfl)
  have hwt0 : ∀ n, n ∈ d0.weights Tryd.prog 49 → n ≤ reachBytes := by
    intro n hn
    have := List.all_eq_true.1 hwt n (by
      show n ∈ DataW.weightsEach Tryd.prog (49 :: _) (d0 :: _)
      unfold DataW.weightsEach
      exact List.mem_append_left _ hn)
    simpa using this
  obtain ⟨l, hok, hsl, hpl⟩ := dds_read (W := W) (vs := [v0]) h0 hwt0 (by simp) hc0
  obtain ⟨r, h', k, ⟨rfl, hkp, hwf⟩, hk⟩ := forms_at (EW_ok W [v0]) (wf_start W [v0]) (noMem_frz _ _) hok hsl hx
  have hcl1 : cl1 (EW W [v0]).base v0 = true := cl1_of hpl (topN_arg (by simp))
  have hlo : ∀ b o, b < (EW W [v0]).base → (EW W [v0]).ro b = some o → b < W.heap.size := fun b o _ hb => by
    replace hb : W.heap[b]? = some o := hb
    rcases Nat.lt_or_ge b W.heap.size with h | h
    · exact h
    · rw [Array.getElem?_eq_none h] at hb; cases hb
  have hcall := call_open (prog_ok W [v0] (size_le hs)) (known_ok [v0] hT) mixed (hk k (Nat.le_refl _)) (fun x hx => by
      rcases List.mem_cons.1 hx with rfl | hx
      · exact sc_enc1 _ _ hcl1
      · simp only [List.mem_singleton] at hx; subst hx; rfl)
    (vs := [v0, .int .u64 (x : Int)]) (by rw [List.map_cons, List.map_cons, List.map_nil, ren_enc1 _ _ (fun b _ => rfl) v0 hcl1]; rfl) (fun ρ => rfl) hlo (fun b o _ hb => hb)
  have hlt : ∀ x ∈ (p0 ++ p1) ++ [], x.block < W.heap.size := fun x hx => by simpa using hW'.lt x hx
  refine hcall.mono ?_
  rintro e W' ⟨rfl, bel⟩
  refine ⟨_, rfl, _, _, _, [], p0 ++ p1, [], hW', ?_, ?_, rfl, bel.frame _, fun h => by cases h⟩
  · rw [results]; exact trodAll_cons_mk (shut_bool Tryd.underlying4 _) trodAll_mk0
  · rw [params]
    exact trodAll_mk2 (Below.trod (by kernel_rfl) (by kernel_rfl) (of_decide_eq_true (by kernel_rfl)) h0 bel (fun x hx => hlt x (by simp [hx]))) (Below.trod (by kernel_rfl) (by kernel_rfl) (of_decide_eq_true (by kernel_rfl)) h1 bel (fun x hx => hlt x (by simp [hx])))
theorem laid_met (os : Os) (args : Array Value) : laidMet Tryd.prog Rows.docFormsRow.laid ((laidWorld os).forCall (fun _ _ => 0) ⟨#[], args, []⟩).memory :=
  (LaidIn.of_run (l := Rows.docFormsRow.laid) [0, 1] 8 (by kernel_rfl) (by kernel_rfl) (by kernel_rfl) (by kernel_rfl)).met
theorem reads (os : Os) {H : Type} (enc : TypeId × Value → H) : ∃ places, DataW.whole enc Tryd.prog ((laidWorld os).forCall (fun _ _ => 0) ⟨#[], #[.slice none 0 0, .int .u64 0], []⟩).memory Tryd.f5.params.toList Rows.docFormsSpec.vars false (#[.slice none 0 0, .int .u64 0] : Array Value).toList 8 = some ([.nil, .lit (.int .u64 0)], [], places) :=
  ⟨[], by kernel_rfl⟩
theorem lifted (os : Os) (started : os.Started) (H : Type) (enc : TypeId × Value → H) (F : Stop.Interp) :
    ReturnsInHanded {} Tryd.checked os 5 .any ((OpenSpec.ofChange Rows.docFormsSpec).preRow enc Tryd.prog Tryd.f5 Rows.docFormsRow.domain false Rows.docFormsRow.laid) (((OpenSpec.ofChange Rows.docFormsSpec).at F).post enc Tryd.prog Tryd.f5 false true false false) := by
  obtain ⟨places, hx⟩ := reads os enc
  refine returnsInHanded_of_row (C := Tryd.checked) (s := OpenSpec.ofChange Rows.docFormsSpec) own started (by kernel_rfl) Tryd.func5
    (witness_row_at (enc := enc) (C := Tryd.checked) false (laidWorld os) #[.slice none 0 0, .int .u64 0] rfl (by kernel_rfl) (by kernel_rfl) (by kernel_rfl)
      (OpenSpec.preRow_of_cond 8 hx (by kernel_rfl) (fun k hk => by cases hk) (by kernel_rfl) (laid_met os _))) ?_
  intro W base args ds gs before hval hW _ _ hwt hL hs _
  exact contract H enc W base args ds gs before hs (laid_tabs hL) hval hwt hW
theorem said : Rows.DocFormsSaid :=
  OpenClaim.holds_of_cond 5 Tryd.f5 rfl rfl rfl rfl rfl rfl rfl ⟨rfl, rfl, rfl, rfl, rfl⟩ rfl rfl rfl rfl rfl (by kernel_rfl) Tryd.func5 (by kernel_rfl)
    (of_decide_eq_true (by kernel_rfl)) (by unfold Func.isWrapper; first | (rw [if_pos (by decide +kernel)]; kernel_rfl) | (rw [if_neg (by decide +kernel)]; exact ⟨rfl, rfl⟩))
    (fun os started H enc _ F => by rw [OpenClaim.pre_eq_preRow]; exact lifted os started H enc F)
/-- No parameter wants a stand-in; the program's own looks are off: what the card asks. -/
theorem plain (f : FuncId) (fn : Func) (hf : Tryd.pinned.checked.prog.funcNamed Tryd.f5.name = some f) (hfn : Tryd.pinned.checked.prog.funcs[f]? = some fn) :
    false = Tryd.pinned.checked.prog.looks [] ∧ ∀ (j : Nat) t, fn.params[j]? = some t → Tryd.pinned.checked.prog.wantsStandIn t = false := by
  obtain rfl : f = 5 := Option.some.inj ((show Tryd.prog.funcNamed Tryd.f5.name = some 5 by kernel_rfl).symm.trans hf) |>.symm
  obtain rfl : fn = Tryd.f5 := (Option.some.inj (Tryd.func5.symm.trans hfn)).symm
  refine ⟨by kernel_rfl, fun j t ht => ?_⟩
  rw [params] at ht
  have e : t = 49 ∨ t = 37 := by
    match j with
    | 0 => simp at ht; exact .inl ht.symm
    | 1 => simp at ht; exact .inr ht.symm
    | j + 2 => simp at ht
  rcases e with rfl | rfl
  · exact (by kernel_rfl : Tryd.prog.wantsStandIn 49 = false)
  · exact (by kernel_rfl : Tryd.prog.wantsStandIn 37 = false)
theorem card : Rows.DocFormsCardSaid :=
  Claim7.holds_tied_plain_at .later [] _ _ _ _ said (fun _ h => by cases h) (by kernel_rfl) (fun _ h => by cases h) docForms_row_tie rfl ⟨rfl, rfl⟩ (by kernel_rfl) rfl plain (by kernel_rfl)
#print axioms card
end Go.Proofs.YthfopcdammlmfaaDoor.docForms
