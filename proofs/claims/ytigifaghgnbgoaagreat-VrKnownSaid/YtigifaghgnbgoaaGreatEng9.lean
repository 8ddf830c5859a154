/- The engine, ninth part: new memory, on both sides. -/
import Derived.Test.YtigifaghgnbgoaaGreatEng8
namespace Go.Tm

theorem arep_length (n : Nat) (z : List Value) : (arep n z).length = n * z.length := by
  induction n with
  | zero => simp [arep]
  | succ n ih => simp [arep, ih, Nat.succ_mul]; omega

theorem arep_get (z : List Value) (_ : 0 < z.length) : ∀ (n i : Nat), i < n * z.length → (arep n z)[i]? = z[i % z.length]? := by
  intro n
  induction n with
  | zero => intro i h; simp at h
  | succ n ih =>
    intro i h
    simp only [arep]
    by_cases hi : i < z.length
    · rw [List.getElem?_append_left hi, Nat.mod_eq_of_lt hi]
    · rw [List.getElem?_append_right (by omega), ih _ (by rw [Nat.succ_mul] at h; omega)]
      rw [Nat.mod_eq_sub_mod (by omega : i ≥ z.length)]

theorem arep_range (z : List Value) (hz : 0 < z.length) (n : Nat) : ((Array.range (n * z.length)).map (fun i => z.toArray[i % z.toArray.size]!)) = (arep n z).toArray := by
  apply Array.ext_getElem?
  intro i
  by_cases hi : i < n * z.length
  · have hm : i % z.length < z.length := Nat.mod_lt _ hz
    have e : (arep n z).toArray[i]? = z[i % z.length]? := by rw [← arep_get z hz n i hi]; simp
    rw [e]
    simp [hi, hm]
  · have e : (arep n z).toArray[i]? = none := by
      rw [show (arep n z).toArray[i]? = (arep n z)[i]? by simp, List.getElem?_eq_none (by rw [arep_length]; omega)]
    rw [e]
    simp [hi]

theorem arep_map (f : Value → Value) (n : Nat) (z : List Value) : (arep n z).map f = arep n (z.map f) := by
  induction n with
  | zero => rfl
  | succ n ih => simp [arep, ih]
theorem arep_mem {n : Nat} {z : List Value} {x : Value} (h : x ∈ arep n z) : x ∈ z := by
  induction n with
  | zero => simp [arep] at h
  | succ n ih =>
    simp only [arep, List.mem_append] at h
    rcases h with h | h
    · exact h
    · exact ih h

theorem wrap_id {n : Int} (h : 0 ≤ n) (h2 : n ≤ 9223372036854775807) : IntKind.i64.wrap n = n := by
  have e : n % (18446744073709551616 : Int) = n := Int.emod_eq_of_lt h (by omega)
  simp [IntKind.wrap, IntKind.bits, IntKind.signed, e]
  omega

theorem objR_fresh {P : Program} {ρ : Ren} {r : Nat} {c : List Value} {e : TypeId} {fx : Bool} : objR P ρ ⟨r, 0, 0⟩ (.cells c e fx) (.cells (c.map (ren ρ)).toArray e) :=
  ⟨rfl, fun _ => rfl, [], [], by simp, rfl, by simp, fun i _ h => by simp at h⟩

theorem zero_cells {P : Program} {ρ : Ren} {t : TypeId} {z : Value} (h : azero P t = some z) : z.cells = ((vcells z).map (ren ρ)).toArray := by
  rw [← vcells_ren, (azero_vcells (ρ := ρ) h).1, cells_eq]

theorem azero_map {P : Program} {ρ : Ren} {t : TypeId} {z : Value} (h : azero P t = some z) : (vcells z).map (ren ρ) = vcells z := by
  rw [← vcells_ren, (azero_vcells (ρ := ρ) h).1]

theorem run_aalloc {P : Program} {ρ : Ren} {n : Nat} {w : World} {ev : Operand → Value} {o : Oper} {mk : Nat → Value} {ob : AObj}
    (hs : ∀ x, x ∈ o.op.operands → sc n (ev x) = true) (h : aalloc P ev o.op = some (mk, ob)) :
    ∃ c, (execOp (fun x => ren ρ (ev x)) o).run P w = .ok (.value (ren (upd ρ n ⟨w.heap.size, 0, 0⟩) (mk n))) (w.alloc c) ∧ objR P ρ ⟨w.heap.size, 0, 0⟩ ob c ∧ scO n ob ∧ sc (n + 1) (mk n) = true := by
  obtain ⟨dst, op, ty, pos, after, guard⟩ := o
  simp only at h hs
  unfold aalloc at h
  split at h
  · rename_i e
    cases hz : azero P e with
    | none => simp [hz] at h
    | some z =>
      simp [hz] at h
      obtain ⟨rfl, rfl⟩ := h
      refine ⟨_, ?_, objR_fresh, fun v hv => sc_vcells ((azero_vcells (ρ := ρ) hz).2 n) v hv, by simp [sc]⟩
      simp only [execOp, Instr.alloc, Sem.run_bind, (run_azero hz w).1, Result.andThen_ok, newVar, newRow, zero_cells (ρ := ρ) hz]
      simp [ren, rena]
  · rename_i e x
    simp at h
    obtain ⟨rfl, rfl⟩ := h
    have hx := hs x (by simp [Op.operands])
    refine ⟨_, ?_, objR_fresh, fun v hv => sc_vcells hx v hv, by simp [sc]⟩
    have : (ren ρ (ev x)).cells = ((vcells (ev x)).map (ren ρ)).toArray := by rw [cells_eq, vcells_ren]
    simp only [execOp, Instr.box, Sem.run_bind, newVar, newRow, this]
    simp [ren, rena]
  · rename_i t len parts
    split at h
    · rename_i e hu
      split at h
      · rename_i size z hz hzz
        split at h
        · rename_i hc
          cases hf : afill (fun i => some (i * (size + 1), size + 1)) (arep len (vcells z)) (parts.toList.map fun p => (p.1, ev p.2)) with
          | none => simp [hf] at h
          | some l =>
            simp [hf] at h
            obtain ⟨rfl, rfl⟩ := h
            have hzl := hc.2
            have rf := run_afill (ρ := ρ) _ _ _ hf
            rw [arep_map, azero_map hzz] at rf
            refine ⟨_, ?_, objR_fresh, ?_, by simp [sc]⟩
            · have e1 : (parts.map fun (x : Nat × Operand) => match x with | (i, x) => (i, ren ρ (ev x))).toList = List.map (fun p => (p.1, ren ρ p.2)) (List.map (fun p => (p.1, ev p.2)) parts.toList) := by simp
              have e2 : z.cells = (vcells z).toArray := cells_eq z
              simp only [execOp, Instr.buildSlice, Sem.run_bind, run_underlying hu, Result.andThen_ok, run_sizeOf hz]
              rw [if_neg (by have := hc.1; simp only [Nat.succ_eq_add_one] at *; omega)]
              by_cases hl0 : len * (size + 1) = 0
              · have : len = 0 := by
                  rcases Nat.eq_zero_or_pos len with h0 | h0
                  · exact h0
                  · have := Nat.mul_pos h0 (Nat.succ_pos size); simp only [Nat.succ_eq_add_one] at *; omega
                subst this
                simp only [arep] at rf
                simp only [Nat.zero_mul, if_true, Sem.run_pure, Result.andThen_ok, Sem.run_bind]
                rw [e1]
                simp only [Array.range_zero', Array.map_empty]
                rw [show (#[] : Array Value) = ([] : List Value).toArray from rfl, rf]
                simp [newRow, ren, rens]
              · simp only [if_neg hl0, Sem.run_bind, (run_azero hzz w).1, Result.andThen_ok, Sem.run_pure]
                rw [e1, e2]
                have := arep_range (vcells z) (by omega) len
                rw [hzl] at this
                rw [this, rf]
                simp [newRow, ren, rens]
            · refine sc_afill _ _ _ hf (fun x hx => sc_vcells ((azero_vcells (ρ := ρ) hzz).2 n) x (arep_mem hx)) ?_
              intro p hp
              simp only [List.mem_map] at hp
              obtain ⟨q, hq, rfl⟩ := hp
              refine hs q.2 ?_
              simp only [Op.operands, List.mem_toArray, List.mem_map]
              exact ⟨q, hq, rfl⟩
        · cases h
      · cases h
    · cases h
  · rename_i t l c
    split at h
    · rename_i e k1 l' k2 c' hu hl hc
      split at h
      · rename_i i z hi hz
        split at h
        · rename_i hcond
          obtain ⟨h1, h2, h3, h4, h5, h6⟩ := hcond
          simp at h
          obtain ⟨rfl, rfl⟩ := h
          refine ⟨.cells (arep c'.toNat ((vcells z).map (ren ρ))).toArray e, ?_, by rw [← arep_map]; exact objR_fresh, fun v hv => sc_vcells ((azero_vcells (ρ := ρ) hz).2 n) v (arep_mem hv), by simp [sc]⟩
          have w1 : IntKind.i64.wrap l' = l' := wrap_id h1 (by omega)
          have w2 : IntKind.i64.wrap c' = c' := wrap_id (by omega) h3
          have hsz : asz P e = some i.size := by simp [asz, hi]
          simp only [execOp, hl, hc, ren, Instr.makeSlice, Sem.run_bind, run_underlying hu, Result.andThen_ok, asInt, asIntOf, Sem.run_pure, typeInfo, run_program, hi, w1, w2]
          have hb : ¬ ((c' < 0 || (decide ((i.bytes : Int) * c' > 2 ^ 48))) || decide (l' < 0) || decide (l' > c')) = true := by
            simp; omega
          rw [if_neg hb]
          simp only [Sem.run_bind, run_askRoom, Result.andThen_ok, run_sizeOf hsz]
          have e2 : z.cells = (vcells z).toArray := cells_eq z
          have ez := azero_map (ρ := ρ) hz
          by_cases hn0 : c'.toNat * i.size = 0
          · have : c'.toNat = 0 := by
              rcases Nat.eq_zero_or_pos c'.toNat with h0 | h0
              · exact h0
              · have := Nat.mul_pos h0 h6; omega
            simp [this, newRow, arep, rens, Array.range_zero']
          · simp only [if_neg hn0, Sem.run_bind, (run_azero hz w).1, Result.andThen_ok, Sem.run_pure]
            have := arep_range (vcells z) (by omega) c'.toNat
            rw [h5] at this
            rw [e2, this, ez]
            simp [newRow, rens]
        · cases h
      · cases h
    · cases h
  · simp at h
    obtain ⟨rfl, rfl⟩ := h
    refine ⟨.map #[] 0, ?_, ⟨rfl, rfl⟩, (fun e he => by simp at he), by simp [sc]⟩
    simp [execOp, Instr.makeMap, ren]
  · rename_i t x
    split at h
    · rename_i s hu hx
      simp at h
      obtain ⟨rfl, rfl⟩ := h
      refine ⟨.stringIter s 0, ?_, ⟨rfl, rfl, rfl⟩, trivial, by simp [sc]⟩
      simp only [execOp, hx, ren, Instr.range, Sem.run_bind, run_underlying hu, Result.andThen_ok]
      simp [rena]
    · cases h
  · cases h
end Go.Tm
