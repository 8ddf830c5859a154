/- The engine, thirteenth part: one operation, on both sides. -/
import Derived.Test.YtigifaghgnbgoaaGreatEngM
namespace Go.Tm

theorem sc_apure {P : Program} {n : Nat} {ev : Operand → Value} {op : Op} {v : Value} (h : apure P ev op = some v) (hs : ∀ x, x ∈ op.operands → sc n (ev x) = true) : sc n v = true := by
  unfold apure at h
  split at h
  · rename_i x; injection h with h; subst h; exact hs x (by simp [Op.operands])
  · rename_i x; injection h with h; subst h; exact hs x (by simp [Op.operands])
  · rename_i c a b
    split at h
    · rename_i t _
      injection h with h; subst h
      cases t
      · exact hs b (by simp [Op.operands])
      · exact hs a (by simp [Op.operands])
    · cases h
  · rename_i t parts
    refine sc_abuild h ?_
    intro p hp
    simp only [List.mem_map] at hp
    obtain ⟨q, hq, rfl⟩ := hp
    refine hs q.2 ?_
    simp only [Op.operands, List.mem_toArray, List.mem_map]
    exact ⟨q, hq, rfl⟩
  · rename_i x
    have hx := hs x (by simp [Op.operands])
    split at h <;> first
      | (rename_i e; injection h with h; subst h; rw [e] at hx; exact hx)
      | (cases h; done)
  · exact (flat_abin h (fun b => ⟨b, 0, 0⟩) n).2
  · unfold aun at h
    split at h <;> first | (injection h with h; subst h; rfl) | (cases h; done)
  · unfold aconv at h
    split at h <;> first | (injection h with h; subst h; rfl) | (cases h; done)
  · rename_i t x
    have hx := hs x (by simp [Op.operands])
    split at h
    · cases h
    · injection h with h; subst h; simpa [sc] using hx
    · cases h
  · rename_i f first cap
    injection h with h; subst h
    simp only [sc, Bool.and_eq_true, scA, scL_iff, List.mem_map]
    constructor
    · rintro v ⟨x, hx, rfl⟩; exact hs x (by simp [Op.operands]; left; simpa using hx)
    · rintro v ⟨x, hx, rfl⟩; exact hs x (by simp [Op.operands]; right; simpa using hx)
  · rename_i t x lo hi
    have hx := hs x (by simp [Op.operands])
    unfold asl at h
    split at h
    · split at h
      · cases h
      · split at h
        · cases h
        · injection h with h; subst h; rfl
    · rename_i e a len cap hu hv
      rw [hv] at hx
      split at h
      · split at h
        · cases h
        · split at h
          · injection h with h; subst h; rfl
          · split at h
            · split at h
              · injection h with h; subst h; simp only [sc] at hx ⊢; exact hx
              · split at h
                · injection h with h; subst h; simpa [sc] using hx
                · cases h
            · split at h
              · injection h with h; subst h; simpa [sc] using hx
              · cases h
      · cases h
    · cases h
  · rename_i t x f
    have hx := hs x (by simp [Op.operands])
    unfold afieldAddr at h
    split at h
    · rename_i fields a hu hv
      rw [hv] at hx
      split at h
      · split at h
        · injection h with h; subst h; simp only [sc] at hx ⊢; exact hx
        · cases h
      · cases h
    · cases h
  · rename_i t x f
    have hx := hs x (by simp [Op.operands])
    unfold afield at h
    split at h
    · rename_i fields cs hu hv
      rw [hv] at hx
      split at h
      · refine sc_apart h ?_
        cases cs with | mk l => simpa [sc, scA, scL_iff] using hx
      · cases h
    · cases h
  · rename_i t x i
    have hx := hs x (by simp [Op.operands])
    unfold aindexAddr at h
    split at h
    · rename_i hv _
      rw [hv] at hx
      split at h
      · split at h
        · injection h with h; subst h; simp only [sc] at hx ⊢; exact hx
        · cases h
      · cases h
    · rename_i hv _
      rw [hv] at hx
      split at h
      · split at h
        · injection h with h; subst h; simp only [sc] at hx ⊢; exact hx
        · cases h
      · cases h
    · cases h
  · rename_i t x i
    have hx := hs x (by simp [Op.operands])
    unfold aindex at h
    split at h
    · split at h
      · split at h
        · injection h with h; subst h; rfl
        · cases h
      · cases h
    · rename_i cs _ _ hu hv _
      rw [hv] at hx
      split at h
      · split at h
        · refine sc_apart h ?_
          cases cs with | mk l => simpa [sc, scA, scL_iff] using hx
        · cases h
      · cases h
    · cases h
  · rename_i x i
    have hx := hs x (by simp [Op.operands])
    unfold aextract at h
    split at h
    · rename_i vs hv
      rw [hv] at hx
      cases vs with | mk l =>
      simp only [sc, scA, scL_iff] at hx
      exact hx v (List.mem_of_getElem? h)
    · cases h
  · split at h
    · unfold alen at h
      split at h <;> first | (injection h with h; subst h; rfl) | (cases h; done)
    · cases h
  · obtain ⟨k, m, rfl⟩ := flat_amm h; rfl
  · obtain ⟨k, m, rfl⟩ := flat_amm h; rfl
  · cases h

theorem foldl_push : ∀ (ns : List Int) (b : ByteArray), ns.foldl (fun r n => r.push (UInt8.ofNat n.toNat)) b = ⟨b.data ++ (ns.map fun n => UInt8.ofNat n.toNat).toArray⟩
  | [], b => by simp
  | n :: ns, b => by
    simp only [List.foldl_cons]
    rw [foldl_push ns]
    simp [ByteArray.push]

theorem run_aread {E : Env} {B : Nat} {ρ : Ren} {h : Heap} {w : World} (H : HR E B ρ h w) {ev : Operand → Value} {o : Oper} {v : Value} (hx : aread E h ev o.op = some v) :
    (execOp (fun x => ren ρ (ev x)) o).run E.P w = .ok (.value (ren ρ v)) w ∧ sc h.next v = true := by
  obtain ⟨dst, op, ty, pos, after, guard⟩ := o
  simp only at hx
  unfold aread at hx
  split at hx
  · obtain ⟨h1, h2, _⟩ := run_aload H hx
    exact ⟨by simp only [execOp, Sem.run_bind, h1]; rfl, h2⟩
  · obtain ⟨h1, h2⟩ := run_alookup H hx
    exact ⟨by simp only [execOp, Sem.run_bind, h1]; rfl, h2⟩
  · rename_i s d x
    split at hx
    · rename_i e a b hs hd hv
      split at hx
      · rename_i hu
        injection hx with hx; subst hx
        have he : E.P.underlying e = some (.int .u8) := by
          unfold isU8 at hu; split at hu
          · assumption
          · cases hu
        refine ⟨?_, rfl⟩
        simp only [execOp, hv, ren, Sem.run_bind, run_convert_bytes_string w s d e _ _ _ hs he hd]
        simp [Conv.bytesToString]
      · cases hx
    · rename_i e a n c hs hd hv
      split at hx
      · rename_i hu
        have he : E.P.underlying e = some (.int .u8) := by
          unfold isU8 at hu; split at hu
          · assumption
          · cases hu
        split at hx
        · rename_i l hl
          split at hx
          · rename_i hall
            injection hx with hx; subst hx
            refine ⟨?_, rfl⟩
            obtain ⟨h1, h2, h3, hsp⟩ := acells_run H hl
            have hns : ∃ ns : List Int, l = ns.map (Value.int .u8) := by
              clear hl h1 h2 h3
              induction l with
              | nil => exact ⟨[], rfl⟩
              | cons x l ih =>
                simp only [List.all_cons, Bool.and_eq_true] at hall
                obtain ⟨ns, rfl⟩ := ih hall.2
                have := hall.1
                split at this
                · rename_i b; exact ⟨b :: ns, rfl⟩
                · cases this
            obtain ⟨ns, rfl⟩ := hns
            have hm : (ns.map (Value.int .u8)).map (ren ρ) = ns.map (Value.int .u8) := by simp [ren]
            have hlc := run_loadCells_list (P := E.P) w (rena ρ a) _ h1
            rw [hm, List.length_map, ← List.length_map (f := Value.int .u8), h2] at hlc
            simp only [execOp, hv, ren, rens_none hsp, Sem.run_bind, run_convert_bytes_string w s d e _ _ _ hs he hd, run_bytesToString w (rena ρ a) n _ ns hlc, foldl_push]
            simp [Function.comp_def]
          · cases hx
        · cases hx
      · cases hx
    · cases hx
  · cases hx

theorem run_aeff {E : Env} {B : Nat} {ρ : Ren} {h h' : Heap} {w : World} (H : HR E B ρ h w) {ev : Operand → Value} {o : Oper} {v : Value} (hs : ∀ x, x ∈ o.op.operands → sc h.next (ev x) = true) (hx : aeff E h ev o.op = some (.val v h')) :
    ∃ ρ' w', ((execOp (fun x => ren ρ (ev x)) o).run E.P w = .ok (.value (ren ρ' v)) w' ∨ (v = undef ∧ (execOp (fun x => ren ρ (ev x)) o).run E.P w = .ok .skip w')) ∧ Step E B ρ h w ρ' h' w' ∧ sc h'.next v = true := by
  obtain ⟨dst, op, ty, pos, after, guard⟩ := o
  simp only at hx hs
  unfold aeff at hx
  split at hx
  · rename_i t a x
    cases hw : astore E h t (ev a) (ev x) with
    | none => simp [hw] at hx
    | some h2 =>
      simp [hw] at hx
      obtain ⟨rfl, rfl⟩ := hx
      obtain ⟨w', r1, r2⟩ := run_astore H hw (hs x (by simp [Op.operands]))
      refine ⟨ρ, w', .inr ⟨rfl, ?_⟩, r2, rfl⟩
      simp only [execOp, Sem.run_bind, r1, Result.andThen_ok]; rfl
  · rename_i it isS
    cases hw : anext h (ev it) isS with
    | none => simp [hw] at hx
    | some p =>
      simp [hw] at hx
      obtain ⟨rfl, rfl⟩ := hx
      obtain ⟨w', r1, r2, r3⟩ := run_anext (ty := ty) H hw
      refine ⟨ρ, w', .inl ?_, r2, r3⟩
      simp only [execOp, Sem.run_bind, r1, Result.andThen_ok]; rfl
  · rename_i t m k x
    cases hw : aupdate E h t (ev m) (ev k) (ev x) with
    | none => simp [hw] at hx
    | some h2 =>
      simp [hw] at hx
      obtain ⟨rfl, rfl⟩ := hx
      obtain ⟨w', r1, r2⟩ := run_aupdate H hw (hs x (by simp [Op.operands]))
      refine ⟨ρ, w', .inr ⟨rfl, ?_⟩, r2, rfl⟩
      simp only [execOp, Sem.run_bind, r1, Result.andThen_ok]; rfl
  · rename_i t m k x
    cases hw : aupdate E h t (ev m) (ev k) (ev x) with
    | none => simp [hw] at hx
    | some h2 =>
      simp [hw] at hx
      obtain ⟨rfl, rfl⟩ := hx
      obtain ⟨w', r1, r2⟩ := run_aupdate H hw (hs x (by simp [Op.operands]))
      refine ⟨ρ, w', .inr ⟨rfl, ?_⟩, r2, rfl⟩
      simp only [execOp, Sem.run_bind, r1, Result.andThen_ok]; rfl
  · rename_i b args argTypes
    split at hx
    · rename_i s x t t1 ha ht
      obtain ⟨args⟩ := args
      obtain ⟨argTypes⟩ := argTypes
      simp only at ha ht; subst ha ht
      cases hw : aappend E h t t1 (ev s) (ev x) with
      | none => simp [hw] at hx
      | some p =>
        simp [hw] at hx
        obtain ⟨rfl, rfl⟩ := hx
        obtain ⟨ρ', w', r1, r2, r3⟩ := run_aappend (ty := ty) H hw (hs s (by simp [Op.operands, Call.operands]))
        refine ⟨ρ', w', .inl ?_, r2, r3⟩
        simp [execOp, resolve, invoke, builtin, r1]
    · rename_i d x t t1 ha ht
      obtain ⟨args⟩ := args
      obtain ⟨argTypes⟩ := argTypes
      simp only at ha ht; subst ha ht
      cases hw : acopy E h t (ev d) (ev x) with
      | none => simp [hw] at hx
      | some p =>
        simp [hw] at hx
        obtain ⟨rfl, rfl⟩ := hx
        obtain ⟨w', r1, r2, k, m, hkm⟩ := run_acopy (ts := #[t, t1]) (ty := ty) H (by simp) hw
        refine ⟨ρ, w', .inl ?_, r2, by rw [hkm]; rfl⟩
        have : ren ρ p.1 = p.1 := by rw [hkm]; rfl
        simp [execOp, resolve, invoke, builtin, r1, this]
    · rename_i x t ha ht
      obtain ⟨args⟩ := args
      obtain ⟨argTypes⟩ := argTypes
      simp only at ha ht; subst ha ht
      cases hw : aclear E h t (ev x) with
      | none => simp [hw] at hx
      | some p =>
        simp [hw] at hx
        obtain ⟨rfl, rfl⟩ := hx
        obtain ⟨w', r1, r2⟩ := run_aclear (ty := ty) H hw
        refine ⟨ρ, w', .inl ?_, r2, rfl⟩
        simp [execOp, resolve, invoke, builtin, r1, ren, renA_eq]
    · cases hx
  · split at hx <;> simp at hx
  · split at hx
    · split at hx
      · simp at hx
      · split at hx
        · split at hx <;> simp at hx
        · simp at hx
    · simp at hx
  · cases hx

theorem head_app (a : Value) (b : Array Value) : (#[a] ++ b)[0]? = some a := by simp [Array.getElem?_append]

theorem run_callFunc {P : Program} {w : World} {f : FuncId} {fn : Func} {b : Code} {args : Array Value} (hf : P.funcs[f]? = some fn) (hb : fn.body = some b) (hn : (fn.name == "runtime.NumGoroutine") = false) :
    (callFunc f args).run P w = .ok (.enter f args) w := by
  have hn' : ¬ fn.name = "runtime.NumGoroutine" := by simpa using hn
  simp [callFunc, hf, hb, hn']

theorem run_enter {E : Env} {B : Nat} {ρ : Ren} {h : Heap} {w : World} (_ : HR E B ρ h w) {ev : Operand → Value} {o : Oper} {f : FuncId} {args : List Value} (hs : ∀ x, x ∈ o.op.operands → sc h.next (ev x) = true) (hx : aeff E h ev o.op = some (.enter f args))
    {fn : Func} {b : Code} (hf : E.P.funcs[f]? = some fn) (hb : fn.body = some b) (hn : (fn.name == "runtime.NumGoroutine") = false) :
    (execOp (fun x => ren ρ (ev x)) o).run E.P w = .ok (.enter f (args.map (ren ρ)).toArray) w ∧ ∀ v, v ∈ args → sc h.next v = true := by
  obtain ⟨dst, op, ty, pos, after, guard⟩ := o
  simp only at hx hs
  unfold aeff at hx
  split at hx
  · rename_i t a x; cases hw : astore E h t (ev a) (ev x) <;> simp [hw] at hx
  · rename_i it isS; cases hw : anext h (ev it) isS <;> simp [hw] at hx
  · rename_i t m k x; cases hw : aupdate E h t (ev m) (ev k) (ev x) <;> simp [hw] at hx
  · rename_i t m k x; cases hw : aupdate E h t (ev m) (ev k) (ev x) <;> simp [hw] at hx
  · split at hx
    · rename_i s x t t1 _ _; cases hw : aappend E h t t1 (ev s) (ev x) <;> simp [hw] at hx
    · rename_i d x t t1 _ _; cases hw : acopy E h t (ev d) (ev x) <;> simp [hw] at hx
    · rename_i x t _ _; cases hw : aclear E h t (ev x) <;> simp [hw] at hx
    · cases hx
  · rename_i g args' argTypes
    split at hx
    · rename_i g' first cap hv
      simp only [Option.some.injEq, Eff.enter.injEq] at hx
      obtain ⟨rfl, rfl⟩ := hx
      have hg := hs g (by simp [Op.operands, Call.operands])
      rw [hv] at hg
      simp only [sc, Bool.and_eq_true, scA_iff] at hg
      constructor
      · simp only [execOp, resolve, hv, ren, Deferred.ofValue, Sem.run_bind, Sem.run_pure, Result.andThen_ok, invoke]
        rw [run_callFunc hf hb hn]
        congr 2
        apply Array.ext'
        simp [renA_eq, Function.comp_def]
      · intro v hv2
        simp only [List.mem_append, List.mem_map] at hv2
        rcases hv2 with (hv2 | ⟨x, hx, rfl⟩) | hv2
        · exact hg.1 v (by simpa using hv2)
        · exact hs x (by simp [Op.operands, Call.operands]; right; simpa using hx)
        · exact hg.2 v (by simpa using hv2)
    · cases hx
  · rename_i r name args' argTypes
    split at hx
    · rename_i t x hv
      split at hx
      · cases hx
      · rename_i i hi
        split at hx
        · rename_i m hm
          split at hx
          · rename_i f' e hp hmf hu
            simp only [Option.some.injEq, Eff.enter.injEq] at hx
            obtain ⟨rfl, rfl⟩ := hx
            have hg := hs r (by simp [Op.operands, Call.operands])
            rw [hv] at hg
            simp only [sc] at hg
            constructor
            · have hm' : i.methods.find? (fun m => m.name == name) = some m := by
                rw [← Array.find?_toList]; exact hm
              have hpath : m.path = #[] := by cases hpp : m.path with | mk l => rw [hpp] at hp; simp at hp; simp [hp]
              have hmeth : (method ((E.P).types.size + Made.depth) t (ren ρ x) name).run E.P w = .ok (f', ren ρ x) w := by
                generalize hd : (E.P).types.size + Made.depth = d
                obtain ⟨d', rfl⟩ : ∃ d', d = d' + 1 := ⟨(E.P).types.size + 99, by rw [← hd]; rfl⟩
                simp only [method, Sem.run_bind, typeInfo, run_program, Result.andThen_ok, hi, Sem.run_pure, hm', hpath, follow, hmf, receiverAt, run_underlying hu, Place.get]
              simp only [execOp, resolve, hv, ren, Sem.run_bind, Sem.run_pure, Result.andThen_ok, invoke]
              rw [head_app]
              simp [callMethod, hmeth, run_callFunc hf hb hn]
              rw [List.take_of_length_le (by simp)]
              rfl
            · intro v hv2
              simp only [List.mem_cons, List.mem_map] at hv2
              rcases hv2 with rfl | ⟨y, hy, rfl⟩
              · exact hg
              · exact hs y (by simp [Op.operands, Call.operands]; right; simpa using hy)
          · cases hx
        · cases hx
    · cases hx
  · cases hx
end Go.Tm
