/- Memory that stays but for some blocks. -/
/- Merged by a program of ours: P5 P6 L7 L8 L9 L10 M0 L11 L12. -/
import Derived.Test.YthfopcdammlmfaaGreatDoorA8
set_option maxRecDepth 10000
set_option linter.all false
set_option linter.unusedSimpArgs false
set_option linter.unusedVariables false
/- A text in words: the plain law. -/
namespace Go.Tm
def gb (s : ByteArray) (i x : Nat) : Nat := if x < i then (s.data.toList.getD x 0).toNat else 0
theorem gb_lt (s : ByteArray) (i x : Nat) : gb s i x < 256 := by unfold gb; split; exact (s.data.toList.getD x 0).toNat_lt; decide
theorem gb_zero {s : ByteArray} {i x : Nat} (h : i ≤ x) : gb s i x = 0 := by unfold gb; rw [if_neg (by omega)]
theorem gb_step (s : ByteArray) (i x : Nat) : gb s (i + 1) x = if x = i then (s.data.toList.getD x 0).toNat else gb s i x := by
 unfold gb
 by_cases e : x = i
 ·subst e; simp
 ·rw [if_neg e]
  by_cases e2 : x < i
  ·rw [if_pos e2, if_pos (by omega)]
  ·rw [if_neg e2, if_neg (by omega)]
def wd8 (a b c d e f g k : Nat) : Nat := a + 256 * b + 65536 * c + 16777216 * d + 4294967296 * e + 1099511627776 * f + 281474976710656 * g + 72057594037927936 * k
def wd (s : ByteArray) (i j : Nat) : Nat := wd8 (gb s i (8 * j)) (gb s i (8 * j + 1)) (gb s i (8 * j + 2)) (gb s i (8 * j + 3)) (gb s i (8 * j + 4)) (gb s i (8 * j + 5)) (gb s i (8 * j + 6)) (gb s i (8 * j + 7))
theorem wd8_lt {a b c d e f g k : Nat} (ha : a < 256) (hb : b < 256) (hc : c < 256) (hd : d < 256) (he : e < 256) (hf : f < 256) (hg : g < 256) (hk : k < 256) : wd8 a b c d e f g k < 18446744073709551616 := by
 unfold wd8; omega
theorem wd_lt (s : ByteArray) (i j : Nat) : wd s i j < 18446744073709551616 := wd8_lt (gb_lt ..) (gb_lt ..) (gb_lt ..) (gb_lt ..) (gb_lt ..) (gb_lt ..) (gb_lt ..) (gb_lt ..)
theorem wd_zero (s : ByteArray) (j : Nat) : wd s 0 j = 0 := by
 unfold wd; simp only [gb_zero (Nat.zero_le _)]; rfl
theorem wd_other {s : ByteArray} {i j : Nat} (h : i / 8 ≠ j) : wd s (i + 1) j = wd s i j := by
 unfold wd
 simp only [gb_step]
 rw [if_neg (by omega), if_neg (by omega), if_neg (by omega), if_neg (by omega), if_neg (by omega), if_neg (by omega), if_neg (by omega), if_neg (by omega)]
theorem wd_step {s : ByteArray} {i : Nat} (h : i < s.size) : wd s i (i / 8) ||| (s.data.toList.getD i 0).toNat * 2 ^ (8 * (i % 8)) = wd s (i + 1) (i / 8) := by
 obtain ⟨j, hj⟩ : ∃ j, j = i / 8 := ⟨_, rfl⟩
 obtain ⟨r, hr⟩ : ∃ r, r = i % 8 := ⟨_, rfl⟩
 have hi : i = 8 * j + r := by omega
 have hr8 : r < 8 := by omega
 rw [← hj, ← hr]
 generalize hx : (s.data.toList.getD i 0).toNat = x
 have l0 := gb_lt s i (8 * j); have l1 := gb_lt s i (8 * j + 1); have l2 := gb_lt s i (8 * j + 2); have l3 := gb_lt s i (8 * j + 3)
 have l4 := gb_lt s i (8 * j + 4); have l5 := gb_lt s i (8 * j + 5); have l6 := gb_lt s i (8 * j + 6); have l7 := gb_lt s i (8 * j + 7)
 have z : ∀ k, r ≤ k → gb s i (8 * j + k) = 0 := fun k hk => gb_zero (by omega)
 have hstep : ∀ k, gb s (i + 1) (8 * j + k) = if k = r then x else gb s i (8 * j + k) := by
  intro k
  rw [gb_step]
  by_cases e : k = r
  ·rw [if_pos e, if_pos (by omega), ← hx]
   have : 8 * j + k = i := by omega
   rw [this]
  ·rw [if_neg e, if_neg (by omega)]
 have hlt : wd s i j < 2 ^ (8 * r) := by
  unfold wd wd8
  have a := hstep 0
  rcases (by omega : r = 0 ∨ r = 1 ∨ r = 2 ∨ r = 3 ∨ r = 4 ∨ r = 5 ∨ r = 6 ∨ r = 7) with e | e | e | e | e | e | e | e <;> subst e
  ·have z0 := z 0 (by omega); have z1 := z 1 (by omega); have z2 := z 2 (by omega); have z3 := z 3 (by omega); have z4 := z 4 (by omega); have z5 := z 5 (by omega); have z6 := z 6 (by omega); have z7 := z 7 (by omega)
   rw [Nat.add_zero] at z0; rw [z0, z1, z2, z3, z4, z5, z6, z7]; decide
  ·have z1 := z 1 (by omega); have z2 := z 2 (by omega); have z3 := z 3 (by omega); have z4 := z 4 (by omega); have z5 := z 5 (by omega); have z6 := z 6 (by omega); have z7 := z 7 (by omega)
   rw [z1, z2, z3, z4, z5, z6, z7]; omega
  ·have z2 := z 2 (by omega); have z3 := z 3 (by omega); have z4 := z 4 (by omega); have z5 := z 5 (by omega); have z6 := z 6 (by omega); have z7 := z 7 (by omega)
   rw [z2, z3, z4, z5, z6, z7]; omega
  ·have z3 := z 3 (by omega); have z4 := z 4 (by omega); have z5 := z 5 (by omega); have z6 := z 6 (by omega); have z7 := z 7 (by omega)
   rw [z3, z4, z5, z6, z7]; omega
  ·have z4 := z 4 (by omega); have z5 := z 5 (by omega); have z6 := z 6 (by omega); have z7 := z 7 (by omega)
   rw [z4, z5, z6, z7]; omega
  ·have z5 := z 5 (by omega); have z6 := z 6 (by omega); have z7 := z 7 (by omega)
   rw [z5, z6, z7]; omega
  ·have z6 := z 6 (by omega); have z7 := z 7 (by omega)
   rw [z6, z7]; omega
  ·have z7 := z 7 (by omega)
   rw [z7]; omega
 rw [or_add hlt]
 have h0 : gb s (i + 1) (8 * j) = if 0 = r then x else gb s i (8 * j) := hstep 0
 unfold wd
 rw [h0, hstep 1, hstep 2, hstep 3, hstep 4, hstep 5, hstep 6, hstep 7]
 have z' : gb s i (8 * j + r) = 0 := z r (Nat.le_refl _)
 unfold wd8
 rcases (by omega : r = 0 ∨ r = 1 ∨ r = 2 ∨ r = 3 ∨ r = 4 ∨ r = 5 ∨ r = 6 ∨ r = 7) with e | e | e | e | e | e | e | e <;> subst e <;> (try simp only [Nat.add_zero] at z') <;> simp [z'] <;> omega
def packW (s : ByteArray) : List Nat := s.size :: (List.range ((s.size + 7) / 8)).map (wd s s.size)
theorem packW_len (s : ByteArray) : (packW s).length = 1 + (s.size + 7) / 8 := by simp [packW]; omega
def packI (s : ByteArray) (i : Nat) : Nat → Nat := fun k => if k = 0 then s.size else wd s i (k - 1)
theorem packI_step {s : ByteArray} {i : Nat} (h : i < s.size) : updN (packI s i) (1 + i / 8) (wd s i (i / 8) ||| (s.data.toList.getD i 0).toNat * 2 ^ (8 * (i % 8))) = packI s (i + 1) := by
 funext k
 unfold updN packI
 by_cases e : k = 1 + i / 8
 ·subst e
  rw [if_pos rfl, if_neg (by omega), wd_step h]
  have : 1 + i / 8 - 1 = i / 8 := by omega
  rw [this]
 ·rw [if_neg e]
  by_cases e0 : k = 0
  ·rw [if_pos e0, if_pos e0]
  ·rw [if_neg e0, if_neg e0, wd_other (by omega)]
theorem packI_all (s : ByteArray) : (List.range (1 + (s.size + 7) / 8)).map (packI s s.size) = packW s := by
 rw [Nat.add_comm, List.range_succ_eq_map]
 simp only [List.map_cons, List.map_map]
 unfold packW
 refine congr (congrArg _ (by simp [packI])) ?_
 refine List.map_congr_left fun k hk => ?_
 simp [packI]
end Go.Tm
/- A text out of words: the plain law. -/
namespace Go.Tm
def wbytes (w : Nat) : List Nat := [w % 256, w / 256 % 256, w / 65536 % 256, w / 16777216 % 256, w / 4294967296 % 256, w / 1099511627776 % 256, w / 281474976710656 % 256, w / 72057594037927936 % 256]
theorem wbytes_wd8 {a b c d e f g k : Nat} (ha : a < 256) (hb : b < 256) (hc : c < 256) (hd : d < 256) (he : e < 256) (hf : f < 256) (hg : g < 256) (hk : k < 256) : wbytes (wd8 a b c d e f g k) = [a, b, c, d, e, f, g, k] := by
 unfold wbytes wd8
 simp only [List.cons.injEq, and_true]
 refine ⟨?_, ?_, ?_, ?_, ?_, ?_, ?_, ?_⟩ <;> omega
theorem range8 (m : Nat) (f : Nat → Nat) : (List.range m).flatMap (fun j => [f (8 * j), f (8 * j + 1), f (8 * j + 2), f (8 * j + 3), f (8 * j + 4), f (8 * j + 5), f (8 * j + 6), f (8 * j + 7)]) = (List.range (8 * m)).map f := by
 induction m with
 | zero => rfl
 | succ m ih =>
   rw [List.range_succ, List.flatMap_append, ih]
   have : 8 * (m + 1) = 8 * m + 8 := by omega
   rw [this, List.range_add, List.map_append]
   simp [List.range_succ]
def upk (l : List Nat) : Option (List Nat) :=
 match l with
 | [] => none
 | n :: ws => if n ≤ 8 * ws.length ∧ 8 * ws.length < n + 8 ∧ (((ws.flatMap wbytes).drop n).all (· == 0)) = true then some ((ws.flatMap wbytes).take n) else none
theorem upk_pack (s : ByteArray) : upk (packW s) = some (s.data.toList.map (·.toNat)) := by
 have hfl : ((List.range ((s.size + 7) / 8)).map (wd s s.size)).flatMap wbytes = (List.range (8 * ((s.size + 7) / 8))).map (gb s s.size) := by
  rw [← range8, List.flatMap_map]
  refine congrArg (fun f => List.flatMap f _) ?_
  funext j
  exact wbytes_wd8 (gb_lt ..) (gb_lt ..) (gb_lt ..) (gb_lt ..) (gb_lt ..) (gb_lt ..) (gb_lt ..) (gb_lt ..)
 unfold upk packW
 simp only [hfl, List.length_map, List.length_range]
 rw [if_pos]
 ·refine congrArg some ?_
  rw [← List.map_take, List.take_range]
  have hm : min s.size (8 * ((s.size + 7) / 8)) = s.size := by omega
  rw [hm]
  refine List.ext_getElem (by simp) fun i h1 h2 => ?_
  simp only [List.length_map, List.length_range] at h1
  simp only [List.getElem_map, List.getElem_range]
  unfold gb
  have hl : i < s.data.toList.length := by simpa using h1
  rw [if_pos h1, List.getD_eq_getElem?_getD, List.getElem?_eq_getElem hl]; rfl
 ·refine ⟨by omega, by omega, ?_⟩
  rw [List.all_eq_true]
  intro x hx
  rw [← List.map_drop] at hx
  obtain ⟨i, hi, rfl⟩ := List.mem_map.1 hx
  have : s.size ≤ i := by
   obtain ⟨k, hk, rfl⟩ := List.mem_iff_getElem.1 hi
   simp only [List.getElem_drop, List.getElem_range]; omega
  rw [gb_zero this]; rfl
end Go.Tm
/- A region that draws its order, with new memory free of order (the second check). -/
namespace Go.Tm
def rdList (P : Program) (O : List Oper) (M : List Nat) : List (Nat × List Nat) := (O.zipIdx.filter fun x => isR P x.1).map fun x =>
 (x.2, (0 :: (((O.zipIdx.filter fun y => isF P y.1).filter fun e => !bef M x.2 e.2).map fun e => e.2 + 1)).filter fun p => !((O.zipIdx.filter fun y => isF P y.1).any fun e => bef M e.2 x.2 && !decide (e.2 < p)))
def faList (P : Program) (O : List Oper) : List Nat := (O.zipIdx.filter fun x => isF P x.1 || isA P x.1).map (·.2)
def aList (P : Program) (O : List Oper) (M : List Nat) : List (Nat × List Nat) := (O.zipIdx.filter fun x => isA P x.1).map fun x => (x.2, befs M x.2)
def dList (O : List Oper) (M : List Nat) : List (Nat × Nat × List Nat) := O.zipIdx.filterMap fun x => x.1.dst.map fun d => (x.2, d, x.2 :: befs M x.2)
def rdOk (E : Env) (O : List Oper) (tr : List St) (s : St) (q : Nat × List Nat) : Prop :=
 match O[q.1]? with
 | some o => awanted O (sget tr s q.1).tm o = true → ∀ p, p ∈ q.2 → ∃ u, aread E (sget tr s p).h (opd (sget tr s q.1).tm) o.op = some u ∧ aread E (sget tr s q.1).h (opd (sget tr s q.1).tm) o.op = some u ∧ veq u u = true
 | none => True
def faOk (O : List Oper) (tr : List St) (s : St) (i : Nat) : Prop :=
 match O[i]? with
 | some o => awanted O (sget tr s i).tm o = true → ∀ y, y ∈ o.op.operands.toList → sc (sget tr s i).h.next (opd (sget tr s i).tm y) = true
 | none => True
def aOk (E : Env) (O : List Oper) (tr : List St) (s : St) (q : Nat × List Nat) : Prop :=
 match O[q.1]? with
 | some o => awanted O (sget tr s q.1).tm o = true → ∃ p, aalloc E.P (opd (sget tr s q.1).tm) o.op = some p ∧ scOQb (live (sget tr s) q.2) p.2 = true
 | none => True
def dOk (tr : List St) (s : St) (q : Nat × Nat × List Nat) : Prop := scQ (live (sget tr s) q.2.2) (fget (sget tr s (q.1 + 1)).tm q.2.1) = true
theorem ix_get {O : List Oper} {x : Oper × Nat} (h : x ∈ O.zipIdx) : O[x.2]? = some x.1 := by
 rw [← List.mk_mem_zipIdx_iff_getElem?]; exact h
theorem wdraw_two {E : Env} {O : List Oper} {Q : Cont} {tm : Tr Value} {h : Heap} (RS : List (Nat × List Nat)) (FL : List Nat) (AS : List (Nat × List Nat)) (DS : List (Nat × Nat × List Nat)) (NS : List Nat)
 (h0 : dstat E.P O (masks O []) (spOf E.P O (masks O [])) = false) (h1 : dstat2 E.P O (masks O []) = true)
 (hR : rdList E.P O (masks O []) = RS) (hF : faList E.P O = FL) (hA : aList E.P O (masks O []) = AS) (hD : dList O (masks O []) = DS) (hN : O.zipIdx.map (·.2) = NS)
 (H : wpt E O O [] (fun tr => ((∀ i, i ∈ NS → (sget tr ⟨tm, h⟩ i).h.next ≤ (sget tr ⟨tm, h⟩ (i + 1)).h.next) ∧ (∀ q, q ∈ RS → rdOk E O tr ⟨tm, h⟩ q) ∧ (∀ i, i ∈ FL → faOk O tr ⟨tm, h⟩ i) ∧ (∀ q, q ∈ AS → aOk E O tr ⟨tm, h⟩ q) ∧ (∀ q, q ∈ DS → dOk tr ⟨tm, h⟩ q)) ∧
  Q (sget tr ⟨tm, h⟩ O.length).tm (sget tr ⟨tm, h⟩ O.length).h) tm h) : wdraw E O Q tm h := by
 refine .inr (wpt_mono ?_ _ _ _ _ H)
 rintro tr ⟨⟨hn, hr, hf, ha, hd⟩, hq⟩
 refine ⟨?_, hq⟩
 unfold drawOk
 rw [h0, h1]
 simp only [Bool.false_and, Bool.false_or, Bool.not_false, Bool.true_and]
 unfold ddyn2
 simp only [Bool.and_eq_true, List.all_eq_true]
 refine ⟨⟨⟨⟨?_, ?_⟩, ?_⟩, ?_⟩, ?_⟩
 ·intro x hx
  have hm := (List.mem_filter.1 hx).1
  have := hr (x.2, _) (by rw [← hR]; exact List.mem_map.2 ⟨x, hx, rfl⟩)
  unfold rdOk at this
  simp only [ix_get hm] at this
  cases hw : awanted O (sget tr ⟨tm, h⟩ x.2).tm x.1 with
  | false => rfl
  | true =>
    simp only [Bool.not_true, Bool.false_or]
    unfold readsOk
    rw [List.all_eq_true]
    intro p hp
    cases hany : ((O.zipIdx.filter fun y => isF E.P y.1).any fun e => bef (masks O []) e.2 x.2 && !decide (e.2 < p)) with
    | true => rfl
    | false =>
      obtain ⟨u, e1, e2, e3⟩ := this hw p (List.mem_filter.2 ⟨hp, by rw [hany]; rfl⟩)
      simp only [e1, e2, e3, Bool.false_or]
 ·intro x hx
  have := hn x.2 (by rw [← hN]; exact List.mem_map.2 ⟨x, hx, rfl⟩)
  simpa using this
 ·intro x hx
  have hm := (List.mem_filter.1 hx).1
  have := hf x.2 (by rw [← hF]; exact List.mem_map.2 ⟨x, hx, rfl⟩)
  unfold faOk at this
  simp only [ix_get hm] at this
  cases hw : awanted O (sget tr ⟨tm, h⟩ x.2).tm x.1 with
  | false => rfl
  | true =>
    simp only [Bool.not_true, Bool.false_or]
    rw [List.all_eq_true]
    exact this hw
 ·intro x hx
  cases hds : x.1.dst with
  | none => rfl
  | some d =>
    have := hd (x.2, d, x.2 :: befs (masks O []) x.2) (by rw [← hD]; exact List.mem_filterMap.2 ⟨x, hx, by rw [hds]; rfl⟩)
    exact this
 ·intro x hx
  have hm := (List.mem_filter.1 hx).1
  have := ha (x.2, _) (by rw [← hA]; exact List.mem_map.2 ⟨x, hx, rfl⟩)
  unfold aOk at this
  simp only [ix_get hm] at this
  cases hw : awanted O (sget tr ⟨tm, h⟩ x.2).tm x.1 with
  | false => rfl
  | true =>
    simp only [Bool.not_true, Bool.false_or]
    obtain ⟨p, e1, e2⟩ := this hw
    simp only [e1, e2]
theorem aalloc_mk {P : Program} {ev : Operand → Value} {t : TypeId} {x y : Operand} : aalloc P ev (.makeSlice t x y) = amk P t (ev x) (ev y) := rfl
theorem aalloc_box {P : Program} {ev : Operand → Value} {e : TypeId} {x : Operand} : aalloc P ev (.box e x) = some (fun b => .pointer (some ⟨b, 0, none⟩), .cells (vcells (ev x)) e true) := rfl
theorem scO_rep {q : Nat → Bool} {n : Nat} {k : IntKind} {i : Int} {e : TypeId} {fx : Bool} : scOQb q (.cells (arep n [.int k i]) e fx) = true := by
 simp only [scOQb, List.all_eq_true]
 intro v hv
 have := arep_mem hv
 simp at this; subst this; rfl
theorem scO_nil {q : Nat → Bool} {e : TypeId} {fx : Bool} : scOQb q (.cells [] e fx) = true := rfl
theorem scO_cons {q : Nat → Bool} {v : Value} {l : List Value} {e : TypeId} {fx : Bool} : scOQb q (.cells (v :: l) e fx) = (scQ q v && scOQb q (.cells l e fx)) := rfl
theorem live_at {c : Nat → St} {D : List Nat} {b : Nat} : live c D b = (decide (b < (c 0).h.next) || D.any fun k => inSpan c k b) := rfl
end Go.Tm
/- A slice of two, just laid. -/
namespace Go.Tm
theorem buildSlice_two {E : Env} {t e by_ : Nat} (T : Elem E t e 1 by_) {v w : Value} (hl : (vcells v).length = 1) (hl2 : (vcells w).length = 1) : abs1 E.P t 2 [(0, v), (1, w)] = some (fun b => .slice (some ⟨b, 0, none⟩) 2 2, .cells (vcells v ++ vcells w) e true) := by
 obtain ⟨i, hi, hiz⟩ : ∃ i, E.P.info? e = some i ∧ (i.size, i.bytes) = (1, by_) := by
  have := T.info
  rw [Option.map_eq_some_iff] at this
  exact this
 injection hiz with hz1 hz2
 subst hz2
 obtain ⟨zv, hzv, hzl⟩ := T.zero
 obtain ⟨v0, hv0⟩ := List.length_eq_one_iff.1 hl
 obtain ⟨w0, hw0⟩ := List.length_eq_one_iff.1 hl2
 obtain ⟨z0, hz0⟩ := List.length_eq_one_iff.1 hzl
 have hs : asz E.P e = some 1 := by simp [asz, hi, hz1]
 simp only [abs1, T.und, hs, hzv]
 rw [if_pos ⟨by omega, by rw [hzl]⟩]
 simp [afill, hv0, hw0, hz0, arep, splice]
theorem kwv_own2 {E : Env} {h : Heap} {t e e' z by_ lo n : Nat} {cs xs : List Value} {v : Value} {d : Option Nat} {R : Cont} {tm : Tr Value} (T : Elem E t e z by_) (hW : WF E h) (hlo : lo ≤ h.next) (H : Own h e z lo n cs v)
 (hl : xs.length = 2 * z) (ho : xs.all Value.oneCell' = true) (hb : (n + 2) * by_ ≤ 140737488355328) (hn : n + 2 ≤ 9223372036854775807)
 (K : ∀ v' h', Own h' e z lo (n + 2) (cs ++ xs) v' → KeepLo lo h h' → WF E h' → R (aput tm d v') h') : kwv (aappend E (h.push (.cells xs e' true)) t t v (.slice (some ⟨h.next, 0, none⟩) 2 2)) d R tm (h.push (.cells xs e' true)) := by
 refine kwv_own (m := 2) (xs := xs) T (hW.push _) (lo := lo) (by simp; omega) (H.keep ((Keep.refl h).push hW)) rfl (by omega) ?_ hl ho hb hn ?_
 ·have hz := T.pos
  simp only [asrc]
  rw [if_neg (by omega)]
  unfold acells
  simp only [hW.nb0, if_false, get_push, if_true, Nat.zero_add]
  rw [if_pos (by omega), List.drop_zero, List.take_of_length_le (by omega)]
 ·intro v' h' a b c
  exact K v' h' a ((((KeepLo.refl lo h).push (o := .cells xs e' true) hlo)).trans b) c
end Go.Tm
/- Cutting a frozen list of single cells. -/
namespace Go.Tm
theorem sl_cut {E : Env} {P : Program} {G : Mem} {t e : TypeId} (hu : P.underlying t = some (.slice e)) (hz : asz P e = some 1) {n : Nat} {cs : List Value} {v : Value} (hs : Sl E G 1 n cs v) {lo hi : Option Value} {l h : Nat}
 (hh : ∀ c, n ≤ c → abnd hi n c = some h) (hl : abnd lo 0 h = some l) (hlh : l ≤ h) (hhn : h ≤ n) (hsp : ∀ a c, v = .slice (some a) n c → a.spot = none) :
 ∃ y, asl P t v lo hi = some y ∧ Sl E G 1 (h - l) ((cs.drop l).take (h - l)) y := by
 obtain ⟨a, c, rfl, h1, h2, h3, h4⟩ := hs
 unfold asl
 rw [hu]
 simp only [hh c h1, hl, hz]
 cases a with
 | none =>
   have hc0 := h3.1 rfl
   subst hc0
   have hn0 : n = 0 := by omega
   subst hn0
   have : h - l = 0 := by omega
   rw [this]
   exact ⟨_, rfl, _, _, rfl, by omega, by omega, ⟨fun _ => by omega, fun _ x => (by cases x)⟩, .inl ⟨rfl, by simp⟩⟩
 | some a =>
   have hsp' := hsp a c rfl
   simp only [hsp']
   by_cases hc : l < c
   ·rw [if_pos hc]
    refine ⟨_, rfl, _, _, rfl, by omega, by omega, ⟨fun x => (by cases x), fun b e => ?_⟩, ?_⟩
    ·injection e with e; subst e; exact h3.2 a rfl
    ·rcases h4 with ⟨h5, h6⟩ | ⟨b, h5, h6⟩
     ·left; subst h6; exact ⟨by omega, by simp⟩
     ·injection h5 with h5; subst h5
      right
      refine ⟨_, rfl, ?_⟩
      have := gcells_part h6 (i := l) (m := (h - l) * 1) (by omega)
      simp only [addo, Nat.mul_one] at this ⊢
      exact this
   ·rw [if_neg hc, if_pos (by omega)]
    have : h - l = 0 := by omega
    rw [this]
    refine ⟨_, rfl, _, _, rfl, by omega, by omega, ⟨fun x => (by cases x), fun b e => ?_⟩, .inl ⟨rfl, by simp⟩⟩
    injection e with e; subst e; exact h3.2 a rfl
end Go.Tm
/- A region that draws its order, two stores at its end in either order. -/
namespace Go.Tm
def spOk (O : List Oper) (tr : List St) (d : St) (y z : Nat) : Prop :=
 match O[y]?, O[z]? with
 | some oy, some oz => ostep (sget tr d) oy oz y z = true
 | _, _ => False
theorem wdraw_sp {E : Env} {O : List Oper} {Q : Cont} {tm : Tr Value} {h : Heap} (prs : List (Nat × Nat)) (y z : Nat) (h2 : spOf E.P O (masks O []) = some (y, z)) (h1 : dstat E.P O (masks O []) (some (y, z)) = true) (h3 : unord E.P O (masks O []) = prs)
 (H : wpt E O O [] (fun tr => ((∀ p, p ∈ prs → pairOk E O tr ⟨tm, h⟩ p.1 p.2) ∧ spOk O tr ⟨tm, h⟩ y z) ∧ Q (sget tr ⟨tm, h⟩ O.length).tm (sget tr ⟨tm, h⟩ O.length).h) tm h) : wdraw E O Q tm h := by
 refine .inr (wpt_mono ?_ _ _ _ _ H)
 rintro tr ⟨⟨hp, hs⟩, hq⟩
 refine ⟨?_, hq⟩
 unfold drawOk
 rw [h2, h1]
 simp only [Bool.true_and, Bool.not_true, Bool.false_and, Bool.or_false]
 unfold ddyn
 rw [Bool.and_eq_true]
 constructor
 ·simp only [List.all_eq_true]
  intro x hx y hy
  simp only [Bool.or_eq_true, Bool.not_eq_true']
  cases hb : (bef (masks O []) x.2 y.2 || bef (masks O []) y.2 x.2) with
  | true =>
    simp only [Bool.or_eq_true] at hb
    rcases hb with hb | hb
    ·exact .inl hb
    ·exact .inr (.inl hb)
  | false =>
    have hm : (x.2, y.2) ∈ prs := by
     rw [← h3]
     unfold unord
     rw [List.mem_flatMap]
     exact ⟨x, hx, List.mem_map.2 ⟨y, List.mem_filter.2 ⟨hy, by simp [hb]⟩, rfl⟩⟩
    have hpo := hp _ hm
    right; right
    cases ha : awanted O (sget tr ⟨tm, h⟩ x.2).tm x.1 with
    | false => exact .inl rfl
    | true =>
      right
      have hox : O[x.2]? = some x.1 := by
       have := (List.mem_filter.1 hx).1
       rw [← List.mk_mem_zipIdx_iff_getElem?]; exact this
      unfold pairOk at hpo
      simp only [hox] at hpo
      obtain ⟨u, e1, e2, e3, e4⟩ := hpo ha
      simp only [e1, e2, e3, e4, Bool.and_self]
 ·unfold spOk at hs
  simp only
  split at hs
  ·rename_i h1 h2; simp only [h1, h2]; exact hs
  ·exact hs.elim
def kgoto (J : Nat → Nat → Cont) (n : Nat) (Q : XCont) : XCont := fun e tm h =>
 match e with
 | .goto l => ∃ m, m < n ∧ J l m tm h
 | e => Q e tm h
section
variable {J : Nat → Nat → Cont} {n : Nat} {Q : XCont} {tm : Tr Value} {h : Heap}
theorem kgoto_goto {l : Nat} : kgoto J n Q (.goto l) tm h = ∃ m, m < n ∧ J l m tm h := rfl
theorem kgoto_normal : kgoto J n Q .normal tm h = Q .normal tm h := rfl
theorem kgoto_ret : kgoto J n Q .ret tm h = Q .ret tm h := rfl
theorem kgoto_exit {i : Nat} : kgoto J n Q (.exit i) tm h = Q (.exit i) tm h := rfl
end
theorem kgoto_mono {J : Nat → Nat → Cont} {n n' : Nat} {Q : XCont} (h : n ≤ n') : ∀ e tm h', kgoto J n Q e tm h' → kgoto J n' Q e tm h' := by
 intro e tm h' H
 cases e with
 | goto l => obtain ⟨m, h1, h2⟩ := H; exact ⟨m, by omega, h2⟩
 | normal => exact H
 | ret => exact H
 | exit i => exact H
theorem wpc_scope {E : Env} {b : Code} {Q : XCont} {tm : Tr Value} {h : Heap} (J : Nat → Nat → Cont) (N : Nat) (h0 : wpc E b (kgoto J N Q) tm h) (hl : ∀ l n tm h, J l n tm h → ∃ c, findLabel b l = some c ∧ wpc E c (kgoto J n Q) tm h) : wpc E (.scope b) Q tm h := by
 refine ⟨fun n c tm h => wpc E c (kgoto J n Q) tm h, N, h0, ?_⟩
 intro n c tm h H
 refine (wpc_runs c _ tm h H).mono ?_
 intro e tm h he
 cases e with
 | goto l =>
   obtain ⟨m, h1, h2⟩ := he
   obtain ⟨c', h3, h4⟩ := hl l m tm h h2
   exact ⟨m, c', h1, h3, h4⟩
 | normal => exact he
 | ret => exact he
 | exit i => exact he
def slB : Value → List Nat
 | .slice (some a) _ _ => [a.block]
 | _ => []
theorem append_blk {E : Env} {h h' : Heap} {t e z by_ lo n m : Nat} {cs xs : List Value} {v x v' : Value} (T : Elem E t e z by_) (hW : WF E h) (H : Own h e z lo n cs v) (hm : alenOf x = some m) (h0 : 0 < m) (hx : asrc E h z x m = some xs)
 (ha : aappend E h t t v x = some (v', h')) : ∀ b, b ∈ slB v' → b ∈ slB v ∨ h.next ≤ b := by
 obtain ⟨i, hi, hiz⟩ : ∃ i, E.P.info? e = some i ∧ (i.size, i.bytes) = (z, by_) := by
  have := T.info
  rw [Option.map_eq_some_iff] at this
  exact this
 injection hiz with hz1 hz2
 subst hz1; subst hz2
 have main : ∀ base sCap, v = .slice base n sCap → aappend E h t t v x = aappendE E h e i base n sCap m x := by
  intro base sCap hv
  subst hv
  simp only [aappend, T.und, hm, isIntD, Bool.false_eq_true, if_false, hi]
 have grow : ∀ base sCap, agrow E h e i base n sCap m xs = some (v', h') → ∀ b, b ∈ slB v' → h.next ≤ b := by
  intro base sCap hg
  unfold agrow at hg
  split at hg
  ·split at hg
   ·cases hg
   ·split at hg
    ·cases base with
     | none =>
       simp only at hg
       split at hg
       ·injection hg with hg
        injection hg with hg _
        subst hg
        intro b hb
        simp only [slB, anew, List.mem_singleton] at hb; omega
       ·cases hg
     | some a =>
       simp only at hg
       split at hg
       ·split at hg
        ·split at hg
         ·injection hg with hg
          injection hg with hg _
          subst hg
          intro b hb
          simp only [slB, anew, List.mem_singleton] at hb; omega
         ·injection hg with hg
          injection hg with hg _
          subst hg
          intro b hb
          simp only [slB, anew, List.mem_singleton] at hb; omega
        ·cases hg
       ·cases hg
    ·cases hg
  ·cases hg
 have hs : ∃ base sCap, v = .slice base n sCap := by
  rcases H with ⟨rfl, rfl, rfl⟩ | ⟨b, cap, rest, fx, rfl, _⟩
  ·exact ⟨_, _, rfl⟩
  ·exact ⟨_, _, rfl⟩
 obtain ⟨base, sCap, rfl⟩ := hs
 rw [main _ _ rfl] at ha
 unfold aappendE at ha
 rw [if_neg (by omega)] at ha
 simp only [hx] at ha
 split at ha
 ·cases base with
  | none => cases ha
  | some a =>
    simp only at ha
    split at ha
    ·cases ha
    ·simp only [Option.map_eq_some_iff] at ha
     obtain ⟨h2, _, e⟩ := ha
     injection e with e _
     subst e
     intro b hb; left; exact hb
 ·intro b hb; right; exact grow _ _ ha b hb
theorem kwv_app1 {E : Env} {h : Heap} {t e e' z by_ lo n : Nat} {cs xs : List Value} {v : Value} {d : Option Nat} {R : Cont} {tm : Tr Value} (T : Elem E t e z by_) (hW : WF E h) (hlo : lo ≤ h.next) (H : Own h e z lo n cs v)
 (hl : xs.length = z) (ho : xs.all Value.oneCell' = true) (hb : (n + 1) * by_ ≤ 140737488355328) (hn : n + 1 ≤ 9223372036854775807)
 (K : ∀ v' h', Own h' e z lo (n + 1) (cs ++ xs) v' → (∀ b o, h.get b = some o → b ∉ slB v → h'.get b = some o) → (∀ b, b ∈ slB v' → b ∈ slB v ∨ h.next ≤ b) → h.next ≤ h'.next → WF E h' → R (aput tm d v') h') : kwv (aappend E (h.push (.cells xs e' true)) t t v (.slice (some ⟨h.next, 0, none⟩) 1 1)) d R tm (h.push (.cells xs e' true)) := by
 have hz := T.pos
 have hx : asrc E (h.push (.cells xs e' true)) z (.slice (some ⟨h.next, 0, none⟩) 1 1) 1 = some xs := by
  simp only [asrc, Nat.one_mul]
  rw [if_neg (by omega)]
  unfold acells
  simp only [hW.nb0, if_false, get_push, if_true, Nat.zero_add]
  rw [if_pos (by omega), List.drop_zero, List.take_of_length_le (by omega)]
 have kp := (Keep.refl h).push (o := .cells xs e' true) hW
 obtain ⟨v', h', e1, e2, e3, e4, e5⟩ := append_own (m := 1) (xs := xs) T (hW.push _) (lo := lo) (by simp; omega) (H.keep kp) rfl (by omega) hx (by omega) ho hb hn
 refine ⟨(v', h'), e1, K v' h' e2 ?_ ?_ ?_ e4⟩
 ·intro b o hb hn
  refine e5 b o (kp.get _ _ hb) ?_
  intro c a k hv he
  subst hv
  exact hn (by simp [slB, he])
 ·intro b hb
  rcases append_blk T (hW.push _) (H.keep kp) rfl (by omega) hx e1 b hb with h1 | h1
  ·exact .inl h1
  ·right; simp at h1; omega
 ·have := e3.next; simp at this; omega
theorem Own.last {E : Env} {h : Heap} {e z lo n : Nat} {cs xs ys : List Value} {v : Value} (hW : WF E h) (H : Own h e z lo (n + 1) (cs ++ xs) v) (hc : cs.length = n * z) (hy : ys.length = z) (ho : ys.all Value.oneCell' = true) :
 ∃ b cap h', v = .slice (some ⟨b, 0, none⟩) (n + 1) cap ∧ n + 1 ≤ cap ∧ awrite h ⟨b, n * z, none⟩ ys = some h' ∧ Own h' e z lo (n + 1) (cs ++ ys) v ∧ (∀ j o, j ≠ b → h.get j = some o → h'.get j = some o) ∧ h'.next = h.next ∧ WF E h' := by
 rcases H with ⟨_, h1, _⟩ | ⟨b, cap, rest, fx, rfl, hg, h1, h2, h3, h4, h5⟩
 ·omega
 ·have hx : xs.length = z := by
   have : (n + 1) * z = n * z + z := by rw [Nat.add_mul]; omega
   simp at h1; omega
  refine ⟨b, cap, h.put b (.cells ((cs ++ ys) ++ rest) e fx), rfl, h3, ?_, .inr ⟨b, cap, rest, fx, rfl, by rw [get_put, if_pos rfl], by simp [hc, hy, Nat.add_mul], h2, h3, h4, h5⟩, ?_, rfl, hW.put hg⟩
  ·simp only [awrite, hg]
   rw [if_pos ⟨by simp [hc, hx, hy], ho⟩]
   have : splice (cs ++ xs ++ rest) (n * z) ys = cs ++ ys ++ rest := by
    unfold splice
    rw [← hc, List.append_assoc cs xs rest, List.take_left, List.drop_length_add_append, hy, ← hx, List.drop_left]
   rw [this]
  ·intro j o hj hgj
   rw [get_put, if_neg (by omega)]; exact hgj
theorem Own.add {E : Env} {G : Mem} {h : Heap} {e z lo n : Nat} {cs : List Value} {v : Value} (hW : WF E h) (hG : Frz E G h) (H : Own h e z lo n cs v) (hb : ∀ b, b ∈ slB v → G b = none) :
 ∃ G', Sl E G' z n cs v ∧ Sub G G' ∧ Frz E G' h ∧ ∀ b c, G' b = some c → G b = some c ∨ (b ∈ slB v ∧ lo ≤ b) := by
 rcases H with ⟨rfl, rfl, rfl⟩ | ⟨b, cap, rest, fx, rfl, hg, hc1, hc2, hc3, hc4, hc5⟩
 ·exact ⟨G, ⟨none, 0, rfl, by omega, by omega, ⟨fun _ => rfl, fun _ x => (by cases x)⟩, .inl ⟨rfl, rfl⟩⟩, Sub.refl _, hG, fun b c h => .inl h⟩
 ·have hGb : G b = none := hb b (by simp [slB])
  refine ⟨fun j => if j = b then some (cs ++ rest) else G j, ⟨some ⟨b, 0, none⟩, cap, rfl, hc3, hc5, ⟨fun x => (by cases x), fun b' e => .inr ⟨cs ++ rest, by injection e with e; subst e; simp⟩⟩, .inr ⟨_, rfl, ?_⟩⟩, ?_, ?_, ?_⟩
  ·unfold gcells
   rw [if_neg (by have := hW.nlt hg; simpa using this)]
   simp only [if_true]
   rw [if_pos (by simp [hc1])]
   simp [← hc1]
  ·intro j c hj
   show (if j = b then some (cs ++ rest) else G j) = some c
   rw [if_neg (by intro e; subst e; rw [hGb] at hj; cases hj)]; exact hj
  ·intro j c hj
   replace hj : (if j = b then some (cs ++ rest) else G j) = some c := hj
   split at hj
   ·rename_i e1; subst e1; injection hj with hj; subst hj; exact ⟨_, _, hg⟩
   ·exact hG j c hj
  ·intro j c hj
   replace hj : (if j = b then some (cs ++ rest) else G j) = some c := hj
   split at hj
   ·rename_i e1; right; subst e1; exact ⟨by simp [slB], hc4⟩
   ·exact .inl hj
theorem Own.lt {E : Env} {h : Heap} {e z lo n : Nat} {cs : List Value} {v : Value} (hW : WF E h) (H : Own h e z lo n cs v) : ∀ b, b ∈ slB v → lo ≤ b ∧ b < h.next := by
 rcases H with ⟨rfl, rfl, rfl⟩ | ⟨b, cap, rest, fx, rfl, hg, hc1, hc2, hc3, hc4, hc5⟩
 ·intro b hb; simp [slB] at hb
 ·intro j hj
  simp only [slB, List.mem_singleton] at hj; subst hj
  exact ⟨hc4, (hW.live _ _ hg).2⟩
theorem Own.but {h h' : Heap} {e z lo n : Nat} {cs : List Value} {v : Value} (H : Own h e z lo n cs v) (k : ∀ b o, b ∈ slB v → h.get b = some o → h'.get b = some o) : Own h' e z lo n cs v := by
 rcases H with H | ⟨b, cap, rest, fx, rfl, h2, h3⟩
 ·exact .inl H
 ·exact .inr ⟨b, cap, rest, fx, rfl, k _ _ (by simp [slB]) h2, h3⟩
theorem Frz.but {E : Env} {G : Mem} {h h' : Heap} (f : Frz E G h) (k : ∀ b o, (G b).isSome = true → h.get b = some o → h'.get b = some o) : Frz E G h' := fun b c hb => by
 obtain ⟨e, fx, hh⟩ := f b c hb
 exact ⟨e, fx, k _ _ (by rw [hb]; rfl) hh⟩
theorem kwv_room {E : Env} {h : Heap} {t e e' z by_ b cap n : Nat} {fx : Bool} {cs rest xs : List Value} {d : Option Nat} {R : Cont} {tm : Tr Value} (T : Elem E t e z by_) (hW : WF E h) (hg : h.get b = some (.cells (cs ++ rest) e fx)) (hc : cs.length = n * z) (hr : z ≤ rest.length) (hn : n + 1 ≤ cap)
 (hl : xs.length = z) (ho : xs.all Value.oneCell' = true)
 (K : R (aput tm d (.slice (some ⟨b, 0, none⟩) (n + 1) cap)) ((h.push (.cells xs e' true)).put b (.cells ((cs ++ xs) ++ rest.drop z) e fx))) : kwv (aappend E (h.push (.cells xs e' true)) t t (.slice (some ⟨b, 0, none⟩) n cap) (.slice (some ⟨h.next, 0, none⟩) 1 1)) d R tm (h.push (.cells xs e' true)) := by
 obtain ⟨i, hi, hiz⟩ : ∃ i, E.P.info? e = some i ∧ (i.size, i.bytes) = (z, by_) := by
  have := T.info
  rw [Option.map_eq_some_iff] at this
  exact this
 injection hiz with hz1 hz2
 subst hz1; subst hz2
 have hz := T.pos
 have hx : asrc E (h.push (.cells xs e' true)) i.size (.slice (some ⟨h.next, 0, none⟩) 1 1) 1 = some xs := by
  simp only [asrc, Nat.one_mul]
  rw [if_neg (by omega)]
  unfold acells
  simp only [hW.nb0, if_false, get_push, if_true, Nat.zero_add]
  rw [if_pos (by omega), List.drop_zero, List.take_of_length_le (by omega)]
 have kp := (Keep.refl h).push (o := .cells xs e' true) hW
 have hg' := kp.get _ _ hg
 refine ⟨(_, _), ?_, K⟩
 simp only [aappend, T.und, alenOf, isIntD, Bool.false_eq_true, if_false, hi]
 unfold aappendE
 rw [if_neg (by omega)]
 simp only [hx]
 rw [if_pos hn]
 simp only [addo, Nat.zero_add, awrite, hg']
 rw [if_pos ⟨by simp only [List.length_append]; omega, ho⟩]
 simp only [Option.map_some]
 rw [← hc, splice_end (by omega), hl]; rfl
theorem scQ_live {c : Nat → St} {D : List Nat} {v : Value} (h : sc (c 0).h.next v = true) (hv : ∃ a n k, v = .slice a n k) : scQ (live c D) v = true := by
 obtain ⟨a, n, k, rfl⟩ := hv
 cases a with
 | none => rfl
 | some a =>
   simp only [sc] at h
   show live c D a.block = true
   unfold live
   rw [h]; rfl
theorem scQ_liveS {c : Nat → St} {D : List Nat} {a : Option Addr} {n k : Nat} (h : sc (c 0).h.next (.slice a n k) = true) : scQ (live c D) (.slice a n k) = true := scQ_live h ⟨_, _, _, rfl⟩
theorem Sl.sc {E : Env} {G : Mem} {h : Heap} (hW : WF E h) (hG : Frz E G h) {z n : Nat} {cs : List Value} {v : Value} (H : Sl E G z n cs v) : Go.Tm.sc h.next v = true := by
 obtain ⟨a, c, rfl, h1, h2, h3, h4⟩ := H
 cases a with
 | none => rfl
 | some a =>
   simp only [Go.Tm.sc, decide_eq_true_eq]
   rcases h3.2 a rfl with h5 | ⟨g, h5⟩
   ·have := hW.base; omega
   ·obtain ⟨e, fx, h6⟩ := hG _ _ h5
    exact (hW.live _ _ h6).2
theorem Frz.addB {E : Env} {G : Mem} {h : Heap} (hG : Frz E G h) {b : Nat} {c : List Value} {e : TypeId} {fx : Bool} (hb : h.get b = some (.cells c e fx)) : Frz E (fun j => if j = b then some c else G j) h := by
 intro j c' hj
 replace hj : (if j = b then some c else G j) = some c' := hj
 split at hj
 ·rename_i e1; subst e1; injection hj with hj; subst hj; exact ⟨_, _, hb⟩
 ·exact hG j c' hj
theorem Sub.addB {G : Mem} {b : Nat} {c : List Value} (hb : G b = none) : Sub G (fun j => if j = b then some c else G j) := fun j c' hj => by
 show (if j = b then some c else G j) = some c'
 rw [if_neg (by intro e; subst e; rw [hb] at hj; cases hj)]; exact hj
theorem Sl.whole {E : Env} {G : Mem} {b z n : Nat} {c : List Value} (hb : ¬ b < E.base) (hG : G b = some c) (hl : c.length = n * z) (hn : n ≤ 9223372036854775807) : Sl E G z n c (.slice (some ⟨b, 0, none⟩) n n) := by
 refine ⟨some ⟨b, 0, none⟩, n, rfl, Nat.le_refl _, hn, ⟨fun x => (by cases x), fun b' e => .inr ⟨c, by injection e with e; subst e; exact hG⟩⟩, .inr ⟨_, rfl, ?_⟩⟩
 unfold gcells
 rw [if_neg hb]
 simp only [hG, Nat.zero_add]
 rw [if_pos (by omega), List.drop_zero, List.take_of_length_le (by omega)]
theorem scO_repL {q : Nat → Bool} {n : Nat} {zs : List Value} (hz : zs.all (scQ q) = true) {e : TypeId} {fx : Bool} : scOQb q (.cells (arep n zs) e fx) = true := by
 simp only [scOQb, List.all_eq_true] at hz ⊢
 intro v hv
 exact hz v (arep_mem hv)
theorem RepFs.app {E : Env} {G : Mem} : ∀ {l l' : List (ByteArray × Vl)} {c c' : List Value}, RepFs E G l c → RepFs E G l' c' → RepFs E G (l ++ l') (c ++ c')
 | [], l', c, c', h, h' => by unfold RepFs at h; subst h; simpa using h'
 | (nm, v) :: l, l', c, c', h, h' => by
   unfold RepFs at h
   obtain ⟨c1, c2, rfl, h1, h2, h3⟩ := h
   simp only [List.cons_append]
   unfold RepFs
   exact ⟨c1, c2 ++ c', by simp, h1, RepFs.app h2 h', h3⟩
theorem RepFs.one {E : Env} {G : Mem} {x : ByteArray × Vl} {c : List Value} (h : Rep E G x.2 c) (hn : x.1.size ≤ 140737488355328) : RepFs E G [x] (.string x.1 :: c) := by
 obtain ⟨nm, v⟩ := x
 unfold RepFs
 exact ⟨c, [], by simp, h, by unfold RepFs; rfl, hn⟩
theorem wpc_scope3 {E : Env} {b : Code} {Q : XCont} {tm : Tr Value} {h : Heap} (J : Nat → Nat → Cont) (N : Nat)
 (H1 : ∃ c, findLabel b 1 = some c ∧ ∀ n tm h, J 1 n tm h → wpc E c (kgoto J n Q) tm h)
 (H2 : ∀ c1, findLabel b 1 = some c1 → (∀ n tm h, J 1 n tm h → wpc E c1 (kgoto J n Q) tm h) → ∃ c, findLabel b 2 = some c ∧ ∀ n tm h, J 2 n tm h → wpc E c (kgoto J n Q) tm h)
 (H0 : ∀ c2, findLabel b 2 = some c2 → (∀ n tm h, J 2 n tm h → wpc E c2 (kgoto J n Q) tm h) → ∃ c, findLabel b 0 = some c ∧ ∀ n tm h, J 0 n tm h → wpc E c (kgoto J n Q) tm h)
 (HS : ∀ c0, findLabel b 0 = some c0 → (∀ n tm h, J 0 n tm h → wpc E c0 (kgoto J n Q) tm h) → wpc E b (kgoto J N Q) tm h)
 (HN : ∀ l n tm h, 3 ≤ l → ¬ J l n tm h) : wpc E (.scope b) Q tm h := by
 obtain ⟨c1, e1, k1⟩ := H1
 obtain ⟨c2, e2, k2⟩ := H2 c1 e1 k1
 obtain ⟨c0, e0, k0⟩ := H0 c2 e2 k2
 refine wpc_scope J N (HS c0 e0 k0) fun l n tm h hJ => ?_
 match l, hJ with
 | 0, hJ => exact ⟨c0, e0, k0 _ _ _ hJ⟩
 | 1, hJ => exact ⟨c1, e1, k1 _ _ _ hJ⟩
 | 2, hJ => exact ⟨c2, e2, k2 _ _ _ hJ⟩
 | l + 3, hJ => exact (HN _ _ _ _ (by omega) hJ).elim
attribute [push_cast] kgoto_goto kgoto_normal kgoto_ret kgoto_exit
theorem nd3 {sb : Nat} {A B bs : List Nat} (h : ([sb] ++ ((A ++ B) ++ bs)).Nodup) : ([sb] ++ bs).Nodup ∧ (∀ b, b ∈ A → b ∉ B ∧ b ≠ sb ∧ b ∉ bs) ∧ (∀ b, b ∈ B → b ∉ A ∧ b ≠ sb ∧ b ∉ bs) ∧ (∀ b, b ∈ bs → b ≠ sb) ∧ A.Nodup ∧ B.Nodup ∧ bs.Nodup := by
 rw [List.singleton_append, List.nodup_cons] at h
 obtain ⟨h1, h2⟩ := h
 obtain ⟨h3, h4, h5⟩ := List.nodup_append.1 h2
 obtain ⟨h6, h7, h8⟩ := List.nodup_append.1 h3
 simp only [List.mem_append, not_or] at h1
 refine ⟨by rw [List.singleton_append, List.nodup_cons]; exact ⟨h1.2, h4⟩, fun b hb => ⟨fun h => h8 b hb b h rfl, fun e => h1.1.1 (e ▸ hb), fun h => h5 b (by simp [hb]) b h rfl⟩, fun b hb => ⟨fun h => h8 b h b hb rfl, fun e => h1.1.2 (e ▸ hb), fun h => h5 b (by simp [hb]) b h rfl⟩, fun b hb e => h1.2 (e ▸ hb), h6, h7, h4⟩
theorem asl_top {P : Program} {t e : TypeId} {z : Nat} (hu : P.underlying t = some (.slice e)) (hz : asz P e = some z) {b n k cap : Nat} (hk : k ≤ n) (hn : n ≤ cap) (h0 : 0 < cap) : asl P t (.slice (some ⟨b, 0, none⟩) n cap) none (some (.int .i64 k)) = some (.slice (some ⟨b, 0, none⟩) k cap) := by
 have h1 : abnd (some (.int .i64 (k : Int))) n cap = some k := by unfold abnd; simp only; rw [if_pos (by omega)]; simp
 have h2 : abnd none 0 k = some 0 := rfl
 unfold asl
 rw [hu]
 simp only [h1, h2, hz]
 rw [if_pos h0]
 simp [addo]
theorem kif_cutS {E : Env} {a b : Code} {v : Value} {R : Cont} {Q : XCont} {tm : Tr Value} {h : Heap} (P : Cont) (m : ∀ tm h, P tm h → R tm h) (H : kif E v (wpc E a) (wpc E b) (kseq P Q) tm h) : kif E v (wpc E a) (wpc E b) (kseq R Q) tm h :=
 kif_cut _ (fun e tm h he => by cases e with
  | normal => exact m _ _ he
  | ret => exact he
  | exit i => exact he
  | goto l => exact he) H
theorem Own.addF {E : Env} {G : Mem} {h : Heap} {e z lo n : Nat} {cs : List Value} {v : Value} (hW : WF E h) (hG : Frz E G h) (H : Own h e z lo n cs v) :
 ∃ G', Sl E G' z n cs v ∧ Sub G G' ∧ Frz E G' h ∧ ∀ b c, G' b = some c → G b = some c ∨ (b ∈ slB v ∧ lo ≤ b) := by
 rcases H with ⟨rfl, rfl, rfl⟩ | ⟨b, cap, rest, fx, rfl, hg, hc1, hc2, hc3, hc4, hc5⟩
 ·exact ⟨G, ⟨none, 0, rfl, by omega, by omega, ⟨fun _ => rfl, fun _ x => (by cases x)⟩, .inl ⟨rfl, rfl⟩⟩, Sub.refl _, hG, fun b c h => .inl h⟩
 ·refine ⟨fun j => if j = b then some (cs ++ rest) else G j, ⟨some ⟨b, 0, none⟩, cap, rfl, hc3, hc5, ⟨fun x => (by cases x), fun b' e => .inr ⟨cs ++ rest, by injection e with e; subst e; simp⟩⟩, .inr ⟨_, rfl, ?_⟩⟩, ?_, ?_, ?_⟩
  ·unfold gcells
   rw [if_neg (by have := hW.nlt hg; simpa using this)]
   simp only [if_true]
   rw [if_pos (by simp [hc1])]
   simp [← hc1]
  ·intro j c hj
   show (if j = b then some (cs ++ rest) else G j) = some c
   split
   ·rename_i e1; subst e1
    obtain ⟨e2, fx2, hh⟩ := hG j c hj
    rw [hg] at hh
    injection hh with hh
    injection hh with hh
    rw [hh]
   ·exact hj
  ·intro j c hj
   replace hj : (if j = b then some (cs ++ rest) else G j) = some c := hj
   split at hj
   ·rename_i e1; subst e1; injection hj with hj; subst hj; exact ⟨_, _, hg⟩
   ·exact hG j c hj
  ·intro j c hj
   replace hj : (if j = b then some (cs ++ rest) else G j) = some c := hj
   split at hj
   ·rename_i e1; right; subst e1; exact ⟨by simp [slB], hc4⟩
   ·exact .inl hj
theorem wpc_label_cut {E : Env} {l : Nat} {rest : Code} {Q : XCont} {tm : Tr Value} {h : Heap} (H : wpc E (.seq .skip rest) Q tm h) : wpc E (.label l) (kseq (wpc E rest Q) Q) tm h := H
end Go.Tm
/- The logic: temporaries forgotten but for some; long regions that draw their order. -/
namespace Go.Tm
theorem kput_gen {tm : Tr Value} {d : Option Nat} {R : Cont} {v : Value} {h : Heap} (H : ∀ tm', (∀ k, fget tm' k = fget tm k) → kput tm' d R v h) : kput tm d R v h := H tm fun _ => rfl
def wpu (E : Env) (O l : List Oper) (tr : List St) (Q : List St → Prop) : Cont := wpt E O l tr Q
section
variable {E : Env} {O l : List Oper} {tr : List St} {Q : List St → Prop} {tm : Tr Value} {h : Heap} {ty : TypeId} {pos : String} {aft : Array Edge}
theorem wpu_nil : wpu E O [] tr Q tm h ↔ Q (tr ++ [⟨tm, h⟩]) := Iff.intro id id
theorem wpu_cons {d : Option Nat} {op : Op} : wpu E O (⟨d, op, ty, pos, aft, none⟩ :: l) tr Q tm h ↔ wop1 E op d (wpu E O l (tr ++ [⟨tm, h⟩]) Q) tm h := by
 unfold wpu; rw [wpt_cons]
theorem wpu_guard {d : Option Nat} {op : Op} {j : Nat} {b : Bool} : wpu E O (⟨d, op, ty, pos, aft, some (j, b)⟩ :: l) tr Q tm h ↔ kguard (gval O j tm) b (wop1 E op d (wpu E O l (tr ++ [⟨tm, h⟩]) Q)) (wskip d (wpu E O l (tr ++ [⟨tm, h⟩]) Q)) tm h := by
 unfold wpu; rw [wpt_guard]
end
theorem wdraw_pairsF {E : Env} {O : List Oper} {Q : Cont} {tm : Tr Value} {h : Heap} (prs : List (Nat × Nat)) (h1 : dstat E.P O (masks O []) none = true) (h2 : (match spOf E.P O (masks O []) with | none => true | some _ => false) = true) (h3 : unord E.P O (masks O []) = prs)
 (H : ∀ F : List St → Prop, (∀ tr, (∀ p, p ∈ prs → pairOk E O tr ⟨tm, h⟩ p.1 p.2) → Q (sget tr ⟨tm, h⟩ O.length).tm (sget tr ⟨tm, h⟩ O.length).h → F tr) → wpu E O O [] F tm h) : wdraw E O Q tm h :=
 wdraw_pairs prs h1 h2 h3 (H _ fun _ a b => ⟨a, b⟩)
end Go.Tm
/- The logic: a method called through an interface. -/
namespace Go.Tm
def ameth (P : Program) (t : TypeId) (name : String) : Option FuncId :=
 match P.info? t with
 | none => none
 | some i => match i.methods.toList.find? (·.name == name) with
   | some m => match m.path.toList, m.func, P.underlying t with
     | [], some (f, true), some (.pointer _) => some f
     | _, _, _ => none
   | none => none
def kinv (E : Env) (v : Value) (name : String) (as : List Value) (d : Option Nat) (R : Cont) : Cont := fun tm h =>
 match v with
 | .iface t v => ∃ f, ameth E.P t name = some f ∧ CallsTo E f (v :: as) h (kput tm d R)
 | _ => False
section
variable {E : Env} {tm : Tr Value} {h : Heap}
theorem wop_invoke {x : Operand} {name : String} {as : Array Operand} {ts : Array TypeId} {d : Option Nat} {R : Cont} : wop1 E (.call ⟨.invoke x name, as, ts⟩) d R tm h ↔ kinv E (opd tm x) name (as.toList.map (opd tm)) d R tm h := by
 simp only [wop1, wpop, kindOf, aeff, kinv, ameth]
 cases opd tm x with
 | iface t v =>
   simp only
   cases E.P.info? t with
   | none => simp
   | some i =>
     simp only
     cases i.methods.toList.find? (·.name == name) with
     | none => simp
     | some m =>
       simp only
       generalize m.path.toList = p
       generalize m.func = q
       generalize E.P.underlying t = u
       split <;> simp
 | _ => simp
theorem kinv_iface {t : TypeId} {v : Value} {name : String} {as : List Value} {d : Option Nat} {R : Cont} {f : FuncId} (hf : ameth E.P t name = some f) : kinv E (.iface t v) name as d R tm h ↔ CallsTo E f (v :: as) h (kput tm d R) := by
 simp [kinv, hf]
end
attribute [push_cast] wop_invoke
end Go.Tm
namespace Go.Tm
structure KX (X : Nat → Prop) (h h' : Heap) : Prop where
 get : ∀ b o, ¬ X b → h.get b = some o → h'.get b = some o
 next : h.next ≤ h'.next
theorem KX.refl (X : Nat → Prop) (h : Heap) : KX X h h := ⟨fun _ _ _ x => x, Nat.le_refl _⟩
theorem KX.trans {X : Nat → Prop} {h h1 h2 : Heap} (a : KX X h h1) (b : KX X h1 h2) : KX X h h2 := ⟨fun x o n y => b.get x o n (a.get x o n y), Nat.le_trans a.next b.next⟩
theorem KX.mono {X Y : Nat → Prop} {h h' : Heap} (a : KX X h h') (m : ∀ b, X b → Y b) : KX Y h h' := ⟨fun x o n y => a.get x o (fun hx => n (m x hx)) y, a.next⟩
theorem KX.then {E : Env} {X Y : Nat → Prop} {h h1 h2 : Heap} (hW : WF E h) (a : KX X h h1) (b : KX Y h1 h2) (m : ∀ x, Y x → X x ∨ h.next ≤ x) : KX X h h2 := ⟨fun x o n y => by
 refine b.get x o (fun hy => ?_) (a.get x o n y)
 rcases m x hy with h3 | h3
 ·exact n h3
 ·have := (hW.live x o y).2; omega, Nat.le_trans a.next b.next⟩
theorem Keep.x {h h' : Heap} (k : Keep h h') (X : Nat → Prop) : KX X h h' := ⟨fun b o _ x => k.get b o x, k.next⟩
end Go.Tm
