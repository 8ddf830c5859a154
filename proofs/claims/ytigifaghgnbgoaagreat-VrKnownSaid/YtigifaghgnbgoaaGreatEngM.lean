/- The engine, the part of maps: keys that are numbers or texts. -/
import Derived.Test.YtigifaghgnbgoaaGreatEng12
namespace Go.Tm

theorem akey_ren {P : Program} {ρ : Ren} {kt : TypeId} {k : Value} {es : List MapEntry} (h : akeyOk P kt k es = true) : ren ρ k = k := by
  unfold akeyOk at h
  split at h
  · rfl
  · rfl
  · cases h

theorem akey_sc {P : Program} {n : Nat} {kt : TypeId} {k : Value} {es : List MapEntry} (h : akeyOk P kt k es = true) : sc n k = true := by
  unfold akeyOk at h
  split at h
  · rfl
  · rfl
  · cases h

theorem run_checkKey {P : Program} {w : World} {kt : TypeId} {k : Value} {es : List MapEntry} {b : Bool} (h : akeyOk P kt k es = true) : (Instr.checkKey b 10000 kt k).run P w = .ok () w := by
  unfold akeyOk at h
  split at h
  · rename_i hu
    show (Instr.checkKey b (9999 + 1) kt _).run P w = _
    rw [Instr.checkKey]
    simp only [Sem.run_bind, run_underlying hu, Result.andThen_ok]; rfl
  · rename_i hu
    show (Instr.checkKey b (9999 + 1) kt _).run P w = _
    rw [Instr.checkKey]
    simp only [Sem.run_bind, run_underlying hu, Result.andThen_ok]; rfl
  · cases h

theorem findNow_int {ρ : Ren} {k0 j : IntKind} {a : Int} : ∀ (es : List MapEntry) (i : Nat), (es.all fun e => match e.key with | .int j' _ => decide (j' = j) | _ => false) = true →
    Instr.findNow (.int k0) (.int j a) (es.map (renE ρ)) i = some ((afindKey (.int j a) es).bind fun n => (es[n]?).map fun e => (i + n, ren ρ e.val))
  | [], i, _ => rfl
  | e :: es, i, h => by
    simp only [List.all_cons, Bool.and_eq_true] at h
    obtain ⟨h1, h2⟩ := h
    have ih := findNow_int (ρ := ρ) (k0 := k0) (a := a) es (i + 1) h2
    split at h1
    · rename_i j' b hk
      simp only [decide_eq_true_eq] at h1
      subst h1
      simp only [List.map_cons, Instr.findNow, renE, hk, ren, Instr.sameNow, if_true, afindKey]
      by_cases e1 : a = b
      · subst e1; simp
      · simp only [beq_eq_false_iff_ne.2 e1, if_neg e1]
        rw [ih]
        cases afindKey (.int j' a) es with
        | none => rfl
        | some n => simp [Nat.add_assoc, Nat.add_comm 1]
    · cases h1

theorem bytes_beq (a b : ByteArray) : (a == b) = (a.data.toList == b.data.toList) := by
  cases a with | mk a => cases b with | mk b =>
  show (a == b) = _
  rw [Bool.eq_iff_iff]
  simp only [beq_iff_eq, ← Array.toList_inj]

theorem findNow_str {ρ : Ren} {a : ByteArray} : ∀ (es : List MapEntry) (i : Nat), (es.all fun e => match e.key with | .string _ => true | _ => false) = true →
    Instr.findNow .string (.string a) (es.map (renE ρ)) i = some ((afindKey (.string a) es).bind fun n => (es[n]?).map fun e => (i + n, ren ρ e.val))
  | [], i, _ => rfl
  | e :: es, i, h => by
    simp only [List.all_cons, Bool.and_eq_true] at h
    obtain ⟨h1, h2⟩ := h
    have ih := findNow_str (ρ := ρ) (a := a) es (i + 1) h2
    split at h1
    · rename_i b hk
      simp only [List.map_cons, Instr.findNow, renE, hk, ren, Instr.sameNow, afindKey, bytes_beq]
      cases hb : (a.data.toList == b.data.toList) with
      | true => simp
      | false =>
        simp only [Bool.false_eq_true, if_false]
        rw [ih]
        cases afindKey (.string a) es with
        | none => rfl
        | some n => simp [Nat.add_assoc, Nat.add_comm 1]
    · cases h1

theorem run_findKey {P : Program} {ρ : Ren} {w : World} {kt : TypeId} {k : Value} {es : List MapEntry} (h : akeyOk P kt k es = true) :
    (Instr.findKey kt k (es.map (renE ρ))).run P w = .ok ((afindKey k es).bind fun n => (es[n]?).map fun e => (n, ren ρ e.val)) w := by
  unfold akeyOk at h
  split at h
  · rename_i _ hu
    simp only [Instr.findKey, Sem.run_bind, run_underlying hu, Result.andThen_ok, findNow_int es 0 h, Nat.zero_add, Sem.run_pure]
  · rename_i hu
    simp only [Instr.findKey, Sem.run_bind, run_underlying hu, Result.andThen_ok, findNow_str es 0 h, Nat.zero_add, Sem.run_pure]
  · cases h

theorem afindKey_lt {k : Value} : ∀ (es : List MapEntry) (n : Nat), afindKey k es = some n → n < es.length
  | [], n, h => by simp [afindKey] at h
  | e :: es, n, h => by
    have ih := afindKey_lt (k := k) es
    unfold afindKey at h
    split at h
    · split at h
      · injection h with h; subst h; simp
      · rw [Option.map_eq_some_iff] at h
        obtain ⟨m, hm, rfl⟩ := h
        have := ih m hm
        simp; omega
    · split at h
      · injection h with h; subst h; simp
      · rw [Option.map_eq_some_iff] at h
        obtain ⟨m, hm, rfl⟩ := h
        have := ih m hm
        simp; omega
    · cases h

/-- The entries, in the world. -/
theorem run_ament {E : Env} {B : Nat} {ρ : Ren} {h : Heap} {w : World} (H : HR E B ρ h w) {m : Value} {es : List MapEntry} (hm : ament h m = some es) :
    (∀ e, e ∈ es → sc h.next e.key = true ∧ sc h.next e.val = true) ∧
    ((m = .map none ∧ es = []) ∨ ∃ r c, m = .map (some r) ∧ h.get r = some (.map es c) ∧ w.heap[(ρ r).r]? = some (.map (es.map (renE ρ)).toArray c)) := by
  unfold ament at hm
  split at hm
  · injection hm with hm; subst hm; exact ⟨fun e he => by simp at he, .inl ⟨rfl, rfl⟩⟩
  · rename_i r
    split at hm
    · rename_i es' c hg
      injection hm with hm; subst hm
      obtain ⟨_, _, _, hs, o, hw, ho⟩ := H.live _ _ hg
      cases o <;> simp only [objR] at ho
      obtain ⟨rfl, rfl⟩ := ho
      exact ⟨hs, .inr ⟨r, _, rfl, hg, hw⟩⟩
    · cases hm
  · cases hm

theorem run_getObj {P : Program} {w : World} {r : Nat} {es : Array MapEntry} {c : Nat} (h : w.heap[r]? = some (.map es c)) : (getObj r).run P w = .ok (.map es c) w := by simp [getObj, Sem.run, h]

theorem run_alookup {E : Env} {B : Nat} {ρ : Ren} {h : Heap} {w : World} (H : HR E B ρ h w) {t : TypeId} {m k v : Value} {ok : Bool} (hx : alookup E h t m k ok = some v) :
    (Instr.lookup t (ren ρ m) (ren ρ k) ok).run E.P w = .ok (ren ρ v) w ∧ sc h.next v = true := by
  unfold alookup at hx
  split at hx
  · rename_i kt et es hu hm
    split at hx
    · rename_i hk
      obtain ⟨hs, hcase⟩ := run_ament H hm
      have hkr := akey_ren (ρ := ρ) hk
      have tail : ∀ x, (Instr.lookup t (ren ρ m) k ok).run E.P w = x → (Instr.lookup t (ren ρ m) (ren ρ k) ok).run E.P w = x := by rw [hkr]; exact fun _ h => h
      have body : (Instr.lookup t (ren ρ m) k ok).run E.P w = (do
          let (v, ok') ← match ((afindKey k es).bind fun n => (es[n]?).map fun e => (n, ren ρ e.val)) with
            | some (_, v) => pure (v, true)
            | none => pure (← zeroValue et, false)
          pure (if ok then .tuple #[v, .bool ok'] else v) : Sem Value).run E.P w := by
        rcases hcase with ⟨rfl, rfl⟩ | ⟨r, c, rfl, hg, hw⟩
        · simp only [Instr.lookup, ren, Sem.run_bind, run_underlying hu, Result.andThen_ok, Sem.run_pure, run_checkKey hk]
          have := run_findKey (P := E.P) (ρ := ρ) (w := w) hk
          simp only [List.map_nil] at this
          rw [this]
          simp only [Result.andThen_ok]
          rfl
        · simp only [Instr.lookup, ren, Sem.run_bind, run_underlying hu, Result.andThen_ok, Sem.run_pure, run_getObj hw, run_checkKey hk, run_findKey (P := E.P) (ρ := ρ) (w := w) hk]
          rfl
      refine ⟨tail _ (body.trans ?_), ?_⟩
      · split at hx
        · rename_i i hi
          split at hx
          · rename_i e he
            injection hx with hx; subst hx
            cases ok <;> simp [hi, he, ren, renA_eq]
          · cases hx
        · rename_i hi
          split at hx
          · rename_i z hz
            injection hx with hx; subst hx
            have e0 := (azero_vcells (ρ := ρ) hz).1
            cases ok <;> simp [hi, (run_azero hz w).1, ren, renA_eq, e0]
          · cases hx
      · split at hx
        · split at hx
          · rename_i e he
            have hv := (hs e (List.mem_of_getElem? he)).2
            injection hx with hx; subst hx
            cases ok <;> simp [sc, scA, scL, hv]
          · cases hx
        · split at hx
          · rename_i z hz
            injection hx with hx; subst hx
            have e0 := (azero_vcells (ρ := ρ) hz).2 h.next
            cases ok <;> simp [sc, scA, scL, e0]
          · cases hx
    · cases hx
  · cases hx

theorem run_setObj {P : Program} {w : World} {r : Nat} {es : Array MapEntry} {c : Nat} {o' : Obj} (h : w.heap[r]? = some (.map es c)) : (setObj r o').run P w = .ok () (setBlk w r o') := by simp [setObj, Sem.run, h, setBlk]

def keyLike (k k' : Value) : Prop :=
  match k, k' with
  | .int j _, .int j' _ => j' = j
  | .string _, .string _ => True
  | _, _ => False

theorem sameBits_aux {k : Value} (ρ : Ren) : ∀ (es : List MapEntry) (n : Nat), afindKey k es = some n → ∀ e, es[n]? = some e → (∀ e, e ∈ es → keyLike k e.key) → Instr.sameBits 10000 (ren ρ e.key) k = true
  | [], n, h => by simp [afindKey] at h
  | e0 :: es, n, hn => by
    intro e he hall
    have ih := sameBits_aux (k := k) ρ es
    have hall' : ∀ e, e ∈ es → keyLike k e.key := fun e h => hall e (List.mem_cons_of_mem _ h)
    have h0 := hall e0 (by simp)
    unfold afindKey at hn
    split at hn
    · rename_i hk
      simp only [hk, keyLike] at h0
      subst h0
      split at hn
      · rename_i hab
        injection hn with hn; subst hn
        simp only [List.getElem?_cons_zero, Option.some.injEq] at he
        subst he
        simp [hk, ren, Instr.sameBits, hab]
      · rw [Option.map_eq_some_iff] at hn
        obtain ⟨m, hm, rfl⟩ := hn
        simp only [List.getElem?_cons_succ] at he
        exact ih m hm e he hall'
    · rename_i a b hk
      split at hn
      · rename_i hab
        injection hn with hn; subst hn
        simp only [List.getElem?_cons_zero, Option.some.injEq] at he
        subst he
        rw [← bytes_beq] at hab
        simp only [hk, ren, Instr.sameBits]
        rw [bytes_beq] at hab ⊢
        simp only [beq_iff_eq] at hab ⊢
        exact hab.symm
      · rw [Option.map_eq_some_iff] at hn
        obtain ⟨m, hm, rfl⟩ := hn
        simp only [List.getElem?_cons_succ] at he
        exact ih m hm e he hall'
    · cases hn

theorem sameBits_key {P : Program} {kt : TypeId} {k : Value} {es : List MapEntry} (h : akeyOk P kt k es = true) {n : Nat} {e : MapEntry} (hn : afindKey k es = some n) (he : es[n]? = some e) (ρ : Ren) : Instr.sameBits 10000 (ren ρ e.key) k = true := by
  refine sameBits_aux ρ es n hn e he ?_
  intro e he
  unfold akeyOk at h
  split at h
  · rw [List.all_eq_true] at h
    have := h e he
    split at this
    · rename_i hk; simp only [hk, keyLike]; simpa using this
    · cases this
  · rw [List.all_eq_true] at h
    have := h e he
    split at this
    · rename_i hk; simp only [hk, keyLike]
    · cases this
  · cases h

theorem run_aupdate {E : Env} {B : Nat} {ρ : Ren} {h h' : Heap} {w : World} (H : HR E B ρ h w) {t : TypeId} {m k v : Value} (hx : aupdate E h t m k v = some h') (hv : sc h.next v = true) :
    ∃ w', (Instr.mapUpdate t (ren ρ m) (ren ρ k) (ren ρ v)).run E.P w = .ok () w' ∧ Step E B ρ h w ρ h' w' := by
  unfold aupdate at hx
  split at hx
  · rename_i kt et r hu
    split at hx
    · rename_i es c hg
      split at hx
      · rename_i hk
        obtain ⟨_, _, _, hs, o, hw, ho⟩ := H.live _ _ hg
        cases o <;> simp only [objR] at ho
        obtain ⟨rfl, hc⟩ := ho
        rw [hc] at hw
        have hkr := akey_ren (ρ := ρ) hk
        have hks := akey_sc (n := h.next) hk
        rw [hkr]
        split at hx
        · rename_i i hi
          injection hx with hx; subst hx
          have hlt := afindKey_lt _ _ hi
          have he : es[i]? = some es[i] := List.getElem?_eq_getElem hlt
          refine ⟨_, ?_, Step.put (o := .map (es.modify i fun e => { e with key := k, val := v }) c) (c := .map ((es.map (renE ρ)).toArray.modify i fun e => { e with key := k, val := ren ρ v }) c) H hg ?_ ⟨?_, rfl⟩⟩
          · have e1 : ((es.map (renE ρ)).toArray[i]?).map (·.key) = some (ren ρ es[i].key) := by simp [hlt, renE]
            simp only [Instr.mapUpdate, ren, Sem.run_bind, run_underlying hu, Result.andThen_ok, run_getObj hw, run_checkKey hk, run_findKey (P := E.P) (ρ := ρ) (w := w) hk, hi, he, Option.bind_some, Option.map_some, e1, Option.getD_some, Instr.keyThatStays, sameBits_key hk hi he ρ, if_true, Sem.run_pure, run_setObj hw]
          · intro e he
            rw [List.mem_iff_getElem?] at he
            obtain ⟨j, hj⟩ := he
            rw [List.getElem?_modify] at hj
            cases hej : es[j]? with
            | none => simp [hej] at hj
            | some e' =>
              have := hs e' (List.mem_of_getElem? hej)
              simp only [hej, Option.map_eq_map, Option.map_some, Option.some.injEq] at hj
              subst hj
              split
              · exact ⟨hks, hv⟩
              · exact this
          · apply Array.ext'
            rw [Array.toList_modify]
            simp only
            apply List.ext_getElem?
            intro j
            rw [List.getElem?_modify, List.getElem?_map, List.getElem?_map, List.getElem?_modify]
            cases es[j]? with
            | none => rfl
            | some e => 
              simp only [Option.map_eq_map, Option.map_some, Option.some.injEq]
              split <;> simp [renE, hkr]
        · rename_i hi
          injection hx with hx; subst hx
          refine ⟨_, ?_, Step.put (o := .map (es ++ [{ key := k, val := v, born := c }]) (c + 1)) (c := .map ((es.map (renE ρ)).toArray.push { key := k, val := ren ρ v, born := c }) (c + 1)) H hg ?_ ⟨?_, rfl⟩⟩
          · simp only [Instr.mapUpdate, ren, Sem.run_bind, run_underlying hu, Result.andThen_ok, run_getObj hw, run_checkKey hk, run_findKey (P := E.P) (ρ := ρ) (w := w) hk, hi, Option.bind_none, run_setObj hw]
          · intro e he
            simp only [List.mem_append, List.mem_singleton] at he
            rcases he with he | rfl
            · exact hs e he
            · exact ⟨hks, hv⟩
          · simp [renE, hkr]
      · cases hx
    · cases hx
  · cases hx
end Go.Tm
