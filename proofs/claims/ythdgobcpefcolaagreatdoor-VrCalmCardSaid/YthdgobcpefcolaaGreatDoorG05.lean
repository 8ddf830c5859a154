/- The engine, nineteenth part: a region that draws its order: whatever order, one outcome. -/
/- Merged by a program of ours: Eng17 Eng18 Eng19. -/
import Derived.Test.YthdgobcpefcolaaGreatDoorG04
set_option maxRecDepth 10000
set_option linter.all false
set_option linter.unusedSimpArgs false
set_option linter.unusedVariables false
/- The engine, seventeenth part: what an operation gives hangs on its operands alone; values held against one another; writes that do not meet. -/
namespace Go.Tm

theorem apure_congr {P : Program} {f g : Operand → Value} {op : Op} (h : ∀ x, x ∈ op.operands → f x = g x) : apure P f op = apure P g op := by
  have am : ∀ (l : Array Operand), (∀ x, x ∈ l → f x = g x) → l.toList.map f = l.toList.map g := fun l hl => List.map_congr_left fun x hx => hl x (by simpa using hx)
  cases op with
  | move x => simp only [apure, h x (by simp [Op.operands])]
  | assign x => simp only [apure, h x (by simp [Op.operands])]
  | pick c a b => simp only [apure, h c (by simp [Op.operands]), h a (by simp [Op.operands]), h b (by simp [Op.operands])]
  | build t ps =>
    have : (ps.toList.map fun p => (p.1, f p.2)) = ps.toList.map fun p => (p.1, g p.2) := List.map_congr_left fun p hp => by
      rw [h p.2 (by simp only [Op.operands, List.mem_toArray, List.mem_map]; exact ⟨p, hp, rfl⟩)]
    simp only [apure, this]
  | nilCheck x => simp only [apure, h x (by simp [Op.operands])]
  | binOp op t x y yt => simp only [apure, h x (by simp [Op.operands]), h y (by simp [Op.operands])]
  | unOp op t x => simp only [apure, h x (by simp [Op.operands])]
  | convert s d x => simp only [apure, h x (by simp [Op.operands])]
  | makeInterface t x => simp only [apure, h x (by simp [Op.operands])]
  | makeFunc fn a b =>
    have h1 := am a (fun x hx => h x (by simp [Op.operands, hx]))
    have h2 := am b (fun x hx => h x (by simp [Op.operands, hx]))
    cases fn <;> simp only [apure, h1, h2]
  | slice t x lo hi mx =>
    have h1 : lo.map f = lo.map g := by cases lo <;> simp; exact h _ (by simp [Op.operands])
    have h2 : hi.map f = hi.map g := by cases hi <;> simp; exact h _ (by simp [Op.operands])
    have h3 := h x (by simp [Op.operands])
    cases mx <;> simp only [apure, h1, h2, h3]
  | fieldAddr t x k => simp only [apure, h x (by simp [Op.operands])]
  | field t x k => simp only [apure, h x (by simp [Op.operands])]
  | indexAddr t x i => simp only [apure, h x (by simp [Op.operands]), h i (by simp [Op.operands])]
  | index t x i => simp only [apure, h x (by simp [Op.operands]), h i (by simp [Op.operands])]
  | extract x i => simp only [apure, h x (by simp [Op.operands])]
  | call c =>
    obtain ⟨callee, args, ats⟩ := c
    have ha := am args fun x hx => h x (by simp [Op.operands, Call.operands, hx])
    cases callee with
    | value y => rfl
    | invoke y name => rfl
    | builtin b =>
      cases b <;> try rfl
      · have hl : ∀ (l : List Operand) (ts : List TypeId), (∀ x, x ∈ l → f x = g x) → (match l, ts with
          | [x], [t] => alen P t (f x)
          | _, _ => none) = match l, ts with
          | [x], [t] => alen P t (g x)
          | _, _ => none := by
          intro l ts hl
          split
          · rw [hl _ (by simp)]
          · rfl
        exact hl args.toList ats.toList fun x hx => h x (by simp [Op.operands, Call.operands]; simpa using hx)
      · simp only [apure, ha]
      · simp only [apure, ha]
  | _ => rfl

theorem aread_congr {E : Env} {hp : Heap} {f g : Operand → Value} {op : Op} (h : ∀ x, x ∈ op.operands → f x = g x) : aread E hp f op = aread E hp g op := by
  cases op with
  | load t x => simp only [aread, h x (by simp [Op.operands])]
  | lookup t x i ok => simp only [aread, h x (by simp [Op.operands]), h i (by simp [Op.operands])]
  | convert s d x => simp only [aread, h x (by simp [Op.operands])]
  | _ => rfl

theorem aalloc_congr {P : Program} {f g : Operand → Value} {op : Op} (h : ∀ x, x ∈ op.operands → f x = g x) : aalloc P f op = aalloc P g op := by
  cases op with
  | box e x => simp only [aalloc, h x (by simp [Op.operands])]
  | buildSlice t l ps =>
    have : (ps.toList.map fun p => (p.1, f p.2)) = ps.toList.map fun p => (p.1, g p.2) := List.map_congr_left fun p hp => by
      rw [h p.2 (by simp only [Op.operands, List.mem_toArray, List.mem_map]; exact ⟨p, hp, rfl⟩)]
    simp only [aalloc, this]
  | makeSlice t l c => simp only [aalloc, h l (by simp [Op.operands]), h c (by simp [Op.operands])]
  | makeMap t r => cases r <;> rfl
  | range t x => simp only [aalloc, h x (by simp [Op.operands])]
  | _ => rfl

def aeffB (E : Env) (h : Heap) (ev : Operand → Value) (b : Builtin) (args : List Operand) (ts : List TypeId) : Option Eff :=
  match b, args, ts with
  | .append, [s, x], [t, t1] => (aappend E h t t1 (ev s) (ev x)).map fun p => .val p.1 p.2
  | .copy, [d, x], [t, _] => (acopy E h t (ev d) (ev x)).map fun p => .val p.1 p.2
  | .clear, [x], [t] => (aclear E h t (ev x)).map (.val (.tuple #[]))
  | _, _, _ => none

theorem aeffB_congr {E : Env} {hp : Heap} {f g : Operand → Value} {b : Builtin} {args : List Operand} {ts : List TypeId} (h : ∀ x, x ∈ args → f x = g x) : aeffB E hp f b args ts = aeffB E hp g b args ts := by
  unfold aeffB
  split
  · rw [h _ (by simp), h _ (by simp)]
  · rw [h _ (by simp), h _ (by simp)]
  · rw [h _ (by simp)]
  · rfl

theorem aeff_builtin {E : Env} {hp : Heap} {f : Operand → Value} {b : Builtin} {args : Array Operand} {ts : Array TypeId} : aeff E hp f (.call { callee := .builtin b, args, argTypes := ts }) = aeffB E hp f b args.toList ts.toList := rfl

theorem aeff_congr {E : Env} {hp : Heap} {f g : Operand → Value} {op : Op} (h : ∀ x, x ∈ op.operands → f x = g x) : aeff E hp f op = aeff E hp g op := by
  cases op with
  | store t x v => simp only [aeff, h x (by simp [Op.operands]), h v (by simp [Op.operands])]
  | next x b => simp only [aeff, h x (by simp [Op.operands])]
  | insert t x k v => simp only [aeff, h x (by simp [Op.operands]), h k (by simp [Op.operands]), h v (by simp [Op.operands])]
  | mapUpdate t x k v => simp only [aeff, h x (by simp [Op.operands]), h k (by simp [Op.operands]), h v (by simp [Op.operands])]
  | call c =>
    obtain ⟨callee, args, ats⟩ := c
    have ha : args.toList.map f = args.toList.map g := List.map_congr_left fun x hx => h x (by simp [Op.operands, Call.operands]; right; simpa using hx)
    cases callee with
    | value y => simp only [aeff, ha, h y (by simp [Op.operands, Call.operands])]
    | invoke y name => simp only [aeff, ha, h y (by simp [Op.operands, Call.operands])]
    | builtin b =>
      rw [aeff_builtin, aeff_builtin]
      exact aeffB_congr fun x hx => h x (by simp [Op.operands, Call.operands]; simpa using hx)
  | _ => rfl

theorem aop_congr {E : Env} {call : Caller} {op : Op} {tm tm' : Tr Value} {h : Heap} (he : ∀ x, x ∈ op.operands → opd tm x = opd tm' x) : aop E call op ⟨tm, h⟩ = aop E call op ⟨tm', h⟩ := by
  simp only [aop, apure_congr he, aread_congr he, aalloc_congr he, aeff_congr he]

mutual
def veq : Value → Value → Bool
  | .bool a, .bool b => a == b
  | .int k a, .int j b => decide (k = j) && decide (a = b)
  | .string a, .string b => a.data.toList == b.data.toList
  | .pointer none, .pointer none => true
  | .pointer (some a), .pointer (some b) => decide (a = b)
  | .slice none l c, .slice none m d => decide (l = m) && decide (c = d)
  | .slice (some a) l c, .slice (some b) m d => decide (a = b) && (decide (l = m) && decide (c = d))
  | .map none, .map none => true
  | .map (some a), .map (some b) => decide (a = b)
  | .nilFunc, .nilFunc => true
  | .nilIface, .nilIface => true
  | .func f x y, .func g u v => decide (f = g) && (veqA x u && veqA y v)
  | .iface t v, .iface u w => decide (t = u) && veq v w
  | .agg x, .agg y => veqA x y
  | .tuple x, .tuple y => veqA x y
  | _, _ => false
def veqA : Array Value → Array Value → Bool
  | ⟨l⟩, ⟨m⟩ => veqL l m
def veqL : List Value → List Value → Bool
  | [], [] => true
  | v :: l, w :: m => veq v w && veqL l m
  | _, _ => false
end

mutual
theorem veq_eq : ∀ a b, veq a b = true → a = b
  | .bool a, b, h => by cases b <;> simp_all [veq]
  | .int k a, b, h => by cases b <;> simp_all [veq]
  | .string a, b, h => by
    cases b <;> simp only [veq] at h <;> first | (cases h; done) | skip
    rename_i b
    have : a.data.toList = b.data.toList := by simpa using h
    congr 1
    cases a; cases b
    congr 1
    exact Array.ext' this
  | .pointer none, b, h => by cases b with
    | pointer q => cases q <;> simp_all [veq]
    | _ => simp [veq] at h
  | .pointer (some a), b, h => by cases b with
    | pointer q => cases q <;> simp_all [veq]
    | _ => simp [veq] at h
  | .slice none l c, b, h => by cases b with
    | slice q m d => cases q <;> simp_all [veq]
    | _ => simp [veq] at h
  | .slice (some a) l c, b, h => by cases b with
    | slice q m d => cases q <;> simp_all [veq]
    | _ => simp [veq] at h
  | .map none, b, h => by cases b with
    | map q => cases q <;> simp_all [veq]
    | _ => simp [veq] at h
  | .map (some a), b, h => by cases b with
    | map q => cases q <;> simp_all [veq]
    | _ => simp [veq] at h
  | .nilFunc, b, h => by cases b <;> simp_all [veq]
  | .nilIface, b, h => by cases b <;> simp_all [veq]
  | .func f x y, b, h => by
    cases b <;> simp only [veq] at h <;> first | (cases h; done) | skip
    simp only [Bool.and_eq_true, decide_eq_true_eq] at h
    rw [h.1, veqA_eq _ _ h.2.1, veqA_eq _ _ h.2.2]
  | .iface t v, b, h => by
    cases b <;> simp only [veq] at h <;> first | (cases h; done) | skip
    simp only [Bool.and_eq_true, decide_eq_true_eq] at h
    rw [h.1, veq_eq _ _ h.2]
  | .agg x, b, h => by
    cases b <;> simp only [veq] at h <;> first | (cases h; done) | skip
    rw [veqA_eq _ _ h]
  | .tuple x, b, h => by
    cases b <;> simp only [veq] at h <;> first | (cases h; done) | skip
    rw [veqA_eq _ _ h]
  | .float k a, b, h => by simp [veq] at h
  | .complex k a c, b, h => by simp [veq] at h
  | .chan a, b, h => by simp [veq] at h
theorem veqA_eq : ∀ a b, veqA a b = true → a = b
  | ⟨l⟩, ⟨m⟩, h => by simp only [veqA] at h; rw [veqL_eq l m h]
theorem veqL_eq : ∀ l m, veqL l m = true → l = m
  | [], m, h => by cases m <;> simp_all [veqL]
  | v :: l, m, h => by
    cases m with
    | nil => simp [veqL] at h
    | cons w m =>
      simp only [veqL, Bool.and_eq_true] at h
      rw [veq_eq v w h.1, veqL_eq l m h.2]
end

/-- Two heaps that hold the same. -/
def Same (h h' : Heap) : Prop := h.next = h'.next ∧ ∀ b, h.get b = h'.get b

theorem Same.refl (h : Heap) : Same h h := ⟨rfl, fun _ => rfl⟩
theorem Same.symm {h h' : Heap} (s : Same h h') : Same h' h := ⟨s.1.symm, fun b => (s.2 b).symm⟩
theorem Same.trans {h h' h'' : Heap} (s : Same h h') (t : Same h' h'') : Same h h'' := ⟨s.1.trans t.1, fun b => (s.2 b).trans (t.2 b)⟩

theorem HR.same {E : Env} {B : Nat} {ρ : Ren} {h h' : Heap} {w : World} (H : HR E B ρ h w) (s : Same h h') : HR E B ρ h' w where
  base_le := s.1 ▸ H.base_le
  ro_B := H.ro_B
  B_le := H.B_le
  fix := H.fix
  ro := H.ro
  live := fun b o hb => by rw [← s.2] at hb; rw [← s.1]; exact H.live b o hb
  inj := fun b b' o o' h1 h2 => by rw [← s.2] at h1 h2; exact H.inj b b' o o' h1 h2

theorem Step.same {E : Env} {B : Nat} {ρ ρ' : Ren} {h h1 h2 : Heap} {w w' : World} (t : Step E B ρ h w ρ' h1 w') (s : Same h1 h2) : Step E B ρ h w ρ' h2 w' where
  hr := t.hr.same s
  ext := t.ext
  le := s.1 ▸ t.le
  frame := t.frame
  range := fun b o hb => by rw [← s.2] at hb; exact t.range b o hb
  size := t.size
  os := t.os
  tape := t.tape
  output := t.output

/-- Two writes that do not meet. -/
def apartW (a : Addr) (n : Nat) (b : Addr) (m : Nat) : Bool := decide (a.block ≠ b.block ∨ a.off + n ≤ b.off ∨ b.off + m ≤ a.off)

theorem splice_comm {c u v : List Value} {i j : Nat} (hi : i + u.length ≤ c.length) (hj : j + v.length ≤ c.length) (h : i + u.length ≤ j ∨ j + v.length ≤ i) : splice (splice c i u) j v = splice (splice c j v) i u := by
  apply List.ext_getElem?
  intro k
  rw [splice_get (by rw [splice_length hi]; exact hj), splice_get hi, splice_get (by rw [splice_length hj]; exact hi), splice_get hj]
  by_cases h1 : k < j <;> by_cases h2 : k < j + v.length <;> by_cases h3 : k < i <;> by_cases h4 : k < i + u.length <;> simp [h1, h2, h3, h4] <;> omega

theorem awrite_comm {h h1 h2 : Heap} {a b : Addr} {u v : List Value} (hu : awrite h a u = some h1) (hv : awrite h1 b v = some h2) (hap : apartW a u.length b v.length = true) :
    ∃ h3 h4, awrite h b v = some h3 ∧ awrite h3 a u = some h4 ∧ Same h4 h2 := by
  unfold awrite at hu
  split at hu
  · cases hu
  · rename_i hsa
    split at hu
    · rename_i c e fx hg
      split at hu
      · rename_i hc
        injection hu with hu; subst hu
        unfold awrite at hv
        split at hv
        · cases hv
        · rename_i hsb
          simp only [get_put] at hv
          simp only [apartW, decide_eq_true_eq] at hap
          by_cases hb : a.block = b.block
          · rw [if_pos hb] at hv
            simp only at hv
            split at hv
            · rename_i hc2
              injection hv with hv; subst hv
              rw [splice_length hc.1] at hc2
              have hg2 : h.get b.block = some (.cells c e fx) := hb ▸ hg
              refine ⟨h.put b.block (.cells (splice c b.off v) e fx), (h.put b.block (.cells (splice c b.off v) e fx)).put a.block (.cells (splice (splice c b.off v) a.off u) e fx), ?_, ?_, ?_⟩
              · unfold awrite; rw [hsb]; simp only [hg2]; rw [if_pos hc2]
              · unfold awrite; rw [hsa]; simp only [get_put, hb, if_true]; rw [splice_length hc2.1, if_pos hc]
              · refine ⟨rfl, fun k => ?_⟩
                simp only [get_put, hb]
                by_cases hk : b.block = k
                · simp only [if_pos hk]
                  rw [splice_comm hc2.1 hc.1 (by omega)]
                · simp only [if_neg hk]
            · cases hv
          · rw [if_neg hb] at hv
            split at hv
            · rename_i c2 e2 fx2 hg2
              split at hv
              · rename_i hc2
                injection hv with hv; subst hv
                refine ⟨h.put b.block (.cells (splice c2 b.off v) e2 fx2), (h.put b.block (.cells (splice c2 b.off v) e2 fx2)).put a.block (.cells (splice c a.off u) e fx), ?_, ?_, ?_⟩
                · unfold awrite; rw [hsb]; simp only [hg2]; rw [if_pos hc2]
                · unfold awrite; rw [hsa]; simp only [get_put, if_neg (fun x => hb (Eq.symm x)), hg]; rw [if_pos hc]
                · refine ⟨rfl, fun k => ?_⟩
                  simp only [get_put]
                  by_cases hk : a.block = k <;> by_cases hk2 : b.block = k <;> simp [hk, hk2]
                  exact absurd (hk.trans hk2.symm) hb
              · cases hv
            · cases hv
      · cases hu
    · cases hu
end Go.Tm
/- The engine, eighteenth part: a region that draws its order: whatever order, one outcome. (What must come before what; schedules.) -/
namespace Go.Tm

def preds (o : Oper) : List Nat := (o.after.toList.filter (Region.binds .any)).map (·.on)

def orMask (acc : List Nat) : List Nat → Nat
  | [] => 0
  | p :: l => (2 ^ p ||| acc.getD p 0) ||| orMask acc l

def masks : List Oper → List Nat → List Nat
  | [], acc => acc
  | o :: l, acc => masks l (acc ++ [orMask acc (preds o)])

def bef (M : List Nat) (j i : Nat) : Bool := (M.getD i 0).testBit j

theorem testBit_orMask {acc : List Nat} {j : Nat} : ∀ {ps : List Nat}, (orMask acc ps).testBit j = true → ∃ p, p ∈ ps ∧ (j = p ∨ (acc.getD p 0).testBit j = true)
  | [], h => by simp [orMask] at h
  | p :: l, h => by
    simp only [orMask, Nat.testBit_or, Bool.or_eq_true] at h
    rcases h with (h | h) | h
    · rw [Nat.testBit_two_pow] at h
      exact ⟨p, by simp, .inl (by simpa [eq_comm] using h)⟩
    · exact ⟨p, by simp, .inr h⟩
    · obtain ⟨q, hq, h⟩ := testBit_orMask h
      exact ⟨q, by simp [hq], h⟩

theorem masks_prefix : ∀ (l : List Oper) (acc : List Nat) (k : Nat), k < acc.length → (masks l acc).getD k 0 = acc.getD k 0
  | [], acc, k, _ => rfl
  | o :: l, acc, k, h => by
    simp only [masks]
    rw [masks_prefix l _ k (by simp; omega)]
    simp [List.getD, List.getElem?_append_left h]

/-- Of each operation: what its mask is made of. -/
theorem masks_at : ∀ (l : List Oper) (acc : List Nat) (k : Nat) (o : Oper), l[k]? = some o →
    ∃ acc' : List Nat, acc'.length = acc.length + k ∧ (∀ p, p < acc.length + k → acc'.getD p 0 = (masks l acc).getD p 0) ∧ (masks l acc).getD (acc.length + k) 0 = orMask acc' (preds o)
  | [], acc, k, o, h => by simp at h
  | u :: l, acc, 0, o, h => by
    simp at h; subst h
    refine ⟨acc, by simp, fun p hp => ?_, ?_⟩
    · simp only [masks]; rw [masks_prefix l _ p (by simp at hp ⊢; omega)]
      simp at hp
      simp [List.getD, List.getElem?_append_left hp]
    · simp only [masks]; rw [masks_prefix l _ _ (by simp)]
      simp [List.getD]
  | u :: l, acc, k + 1, o, h => by
    simp at h
    obtain ⟨acc', h1, h2, h3⟩ := masks_at l (acc ++ [orMask acc (preds u)]) k o h
    simp only [List.length_append, List.length_cons, List.length_nil, Nat.zero_add] at h1 h2 h3
    refine ⟨acc', by omega, fun p hp => ?_, ?_⟩
    · simp only [masks]; exact h2 p (by omega)
    · simp only [masks]; rw [← h3]; congr 1; omega

theorem masks_length : ∀ (l : List Oper) (acc : List Nat), (masks l acc).length = acc.length + l.length
  | [], acc => rfl
  | o :: l, acc => by simp only [masks]; rw [masks_length]; simp; omega

theorem bef_pred {O : List Oper} {j i : Nat} (h : bef (masks O []) j i = true) : ∃ o, O[i]? = some o ∧ ∃ p, p ∈ preds o ∧ (j = p ∨ (p < i ∧ bef (masks O []) j p = true)) := by
  have hi : i < O.length := by
    rcases Nat.lt_or_ge i O.length with h' | h'
    · exact h'
    · have e : (masks O [])[i]? = none := List.getElem?_eq_none (by rw [masks_length]; simpa using h')
      simp [bef, List.getD, e] at h
  have ho : O[i]? = some O[i] := List.getElem?_eq_getElem hi
  obtain ⟨acc', h1, h2, h3⟩ := masks_at O [] i _ ho
  simp only [List.length_nil, Nat.zero_add] at h1 h2 h3
  unfold bef at h
  rw [h3] at h
  obtain ⟨p, hp, hj⟩ := testBit_orMask h
  refine ⟨_, ho, p, hp, ?_⟩
  rcases hj with hj | hj
  · exact .inl hj
  · right
    have hpi : p < i := by
      rcases Nat.lt_or_ge p i with h' | h'
      · exact h'
      · have e : acc'[p]? = none := List.getElem?_eq_none (by omega)
        simp [List.getD, e] at hj
    exact ⟨hpi, by unfold bef; rw [← h2 p hpi]; exact hj⟩

/-- Done, and all that must come before. -/
def Closed (O : List Oper) (D : List Nat) : Prop := ∀ i o, i ∈ D → O[i]? = some o → ∀ p, p ∈ preds o → p ∈ D

theorem bef_done {O : List Oper} {D : List Nat} (hD : Closed O D) : ∀ (i j : Nat), i ∈ D → bef (masks O []) j i = true → j ∈ D := by
  intro i
  induction i using Nat.strongRecOn with
  | _ i ih =>
    intro j hi h
    obtain ⟨o, ho, p, hp, hj⟩ := bef_pred h
    have hpD := hD i o hi ho p hp
    rcases hj with rfl | ⟨hlt, hj⟩
    · exact hpD
    · exact ih p hlt j hpD hj

theorem bef_ready {O : List Oper} {D : List Nat} (hD : Closed O D) {i j : Nat} (hr : ∀ o, O[i]? = some o → ∀ p, p ∈ preds o → p ∈ D) (h : bef (masks O []) j i = true) : j ∈ D := by
  obtain ⟨o, ho, p, hp, hj⟩ := bef_pred h
  rcases hj with rfl | ⟨_, hj⟩
  · exact hr o ho _ hp
  · exact bef_done hD p j (hr o ho p hp) hj

def Down (O : List Oper) : Prop := ∀ i o, O[i]? = some o → ∀ p, p ∈ preds o → p < i

theorem bef_lt {O : List Oper} (hO : Down O) : ∀ (i j : Nat), bef (masks O []) j i = true → j < i := by
  intro i
  induction i using Nat.strongRecOn with
  | _ i ih =>
    intro j h
    obtain ⟨o, ho, p, hp, hj⟩ := bef_pred h
    have hpi := hO i o ho p hp
    rcases hj with rfl | ⟨hlt, hj⟩
    · exact hpi
    · have := ih p hlt j hj; omega

/-- An order that the edges allow. -/
def Sched (O : List Oper) : List Nat → List Nat → Prop
  | D, [] => ∀ i, i < O.length → i ∈ D
  | D, i :: r => i < O.length ∧ i ∉ D ∧ (∀ o, O[i]? = some o → ∀ p, p ∈ preds o → p ∈ D) ∧ Sched O (i :: D) r

theorem nodup_le : ∀ (n : Nat) (l : List Nat), l.Nodup → (∀ x, x ∈ l → x < n) → l.length ≤ n
  | 0, l, _, h => by
    cases l with
    | nil => simp
    | cons x l => have := h x (by simp); omega
  | n + 1, l, hn, h => by
    have h1 := nodup_le n (l.erase n) (hn.erase n) (fun x hx => by
      have hx2 := (hn.mem_erase_iff).1 hx
      have := h x hx2.2; have := hx2.1; omega)
    have := List.length_erase (a := n) (l := l)
    split at this <;> omega

theorem le_of_all : ∀ (n : Nat) (l : List Nat), (∀ i, i < n → i ∈ l) → n ≤ l.length
  | 0, _, _ => Nat.zero_le _
  | n + 1, l, h => by
    have h1 := le_of_all n (l.erase n) (fun i hi => (List.mem_erase_of_ne (by omega)).2 (h i (by omega)))
    rw [List.length_erase_of_mem (h n (by omega))] at h1
    have : 0 < l.length := List.length_pos_of_mem (h n (by omega))
    omega

theorem least_not (P : Nat → Prop) : ∀ n, P n → ∃ i, i ≤ n ∧ P i ∧ ∀ j, j < i → ¬ P j := by
  intro n
  induction n using Nat.strongRecOn with
  | _ n ih =>
    intro h
    by_cases hx : ∃ j, j < n ∧ P j
    · obtain ⟨j, hj, hP⟩ := hx
      obtain ⟨i, h1, h2, h3⟩ := ih j hj hP
      exact ⟨i, by omega, h2, h3⟩
    · exact ⟨n, Nat.le_refl _, h, fun j hj hP => hx ⟨j, hj, hP⟩⟩

theorem go_sched {ops : Array Oper} (hO : Down ops.toList) : ∀ (fuel t : Nat) (listed : Array Bool) (acc : List Nat), listed.size = ops.size → (∀ i, i < ops.size → (listed.getD i true = true ↔ i ∈ acc)) →
    (∀ i, i ∈ acc → i < ops.size) → acc.Nodup → acc.length + fuel = ops.size → ∃ r, Region.linearise.go .any ops fuel t listed acc = acc.reverse ++ r ∧ Sched ops.toList acc r
  | 0, t, listed, acc, hs, hl, hb, hn, hf => by
    refine ⟨[], by simp [Region.linearise.go], fun i hi => ?_⟩
    apply Classical.byContradiction
    intro hni
    have := nodup_le ops.size (i :: acc) (List.nodup_cons.2 ⟨hni, hn⟩) (fun x hx => by
      simp only [List.mem_cons] at hx
      rcases hx with rfl | hx
      · simpa using hi
      · exact hb x hx)
    simp only [List.length_cons] at this; omega
  | fuel + 1, t, listed, acc, hs, hl, hb, hn, hf => by
    have hdec : ∃ i, i < ops.size ∧ i ∉ acc ∧ ∀ j, j < i → j ∈ acc := by
      have hex : ∃ i, i < ops.size ∧ i ∉ acc := by
        apply Classical.byContradiction
        intro hne
        have := le_of_all ops.size acc (fun i hi => Classical.byContradiction fun h => hne ⟨i, hi, h⟩)
        omega
      obtain ⟨i, hi, hni⟩ := hex
      obtain ⟨k, h1, h2, h3⟩ := least_not (fun i => i < ops.size ∧ i ∉ acc) i ⟨hi, hni⟩
      exact ⟨k, h2.1, h2.2, fun j hj => Classical.byContradiction fun h => h3 j hj ⟨by omega, h⟩⟩
    obtain ⟨k, hk, hka, hkl⟩ := hdec
    simp only [Region.linearise.go]
    generalize hrs : (List.filter (fun i => !listed.getD i true && ((ops[i]?).map (fun o => o.after.all fun e => !Region.binds .any e || listed.getD e.on false)).getD false) (List.range ops.size)) = rs
    have hlf : ∀ i, i < ops.size → listed.getD i false = listed.getD i true := by
      intro i hi; simp [Array.getD, hs, hi]
    have hkr : k ∈ rs := by
      rw [← hrs, List.mem_filter]
      refine ⟨by simpa using hk, ?_⟩
      have h1 : listed.getD k true = false := by
        cases hh : listed.getD k true with
        | false => rfl
        | true => exact absurd ((hl k hk).1 hh) hka
      simp only [h1, Bool.not_false, Bool.true_and]
      rw [Array.getElem?_eq_getElem hk]
      simp only [Option.map_some, Option.getD_some]
      rw [Array.all_eq_true']
      intro e he
      cases hb2 : Region.binds .any e with
      | false => rfl
      | true =>
        simp only [Bool.not_true, Bool.false_or]
        have hp : e.on < k := hO k ops[k] (by simp [hk]) e.on (by
          simp only [preds, List.mem_map, List.mem_filter]
          exact ⟨e, ⟨by simpa using he, hb2⟩, rfl⟩)
        rw [hlf _ (by omega)]
        exact (hl e.on (by omega)).2 (hkl _ hp)
    have hpos : 0 < rs.length := List.length_pos_of_mem hkr
    have hm : t % rs.length < rs.length := Nat.mod_lt _ hpos
    rw [List.getElem?_eq_getElem hm]
    simp only
    have hir : rs[t % rs.length] ∈ rs := List.getElem_mem hm
    generalize rs[t % rs.length] = i at hir
    rw [← hrs, List.mem_filter] at hir
    obtain ⟨hi1, hi2⟩ := hir
    have hi : i < ops.size := by simpa using hi1
    simp only [Bool.and_eq_true, Bool.not_eq_true'] at hi2
    have hia : i ∉ acc := fun h => by have := (hl i hi).2 h; rw [hi2.1] at this; cases this
    obtain ⟨r, hr1, hr2⟩ := go_sched hO fuel (t / rs.length) (listed.setIfInBounds i true) (i :: acc) (by simpa using hs) (by
      intro j hj
      by_cases e : i = j
      · subst e; simp [Array.getD, hs, hj]
      · have h0 : (listed.setIfInBounds i true).getD j true = listed.getD j true := by
          rw [Array.getD_eq_getD_getElem?, Array.getD_eq_getD_getElem?, Array.getElem?_setIfInBounds_ne e]
        rw [h0, hl j hj]
        simp only [List.mem_cons]
        constructor
        · exact .inr
        · rintro (h | h)
          · exact absurd h.symm e
          · exact h) (by
      intro j hj
      simp only [List.mem_cons] at hj
      rcases hj with rfl | hj
      · exact hi
      · exact hb j hj) (List.nodup_cons.2 ⟨hia, hn⟩) (by simp only [List.length_cons]; omega)
    refine ⟨i :: r, by rw [hr1]; simp, by simpa using hi, hia, ?_, hr2⟩
    intro o ho p hp
    rw [Array.getElem?_toList] at ho
    rw [ho] at hi2
    simp only [Option.map_some, Option.getD_some, Array.all_eq_true'] at hi2
    simp only [preds, List.mem_map, List.mem_filter] at hp
    obtain ⟨e, ⟨he, hbi⟩, rfl⟩ := hp
    have := hi2.2 e (by simpa using he)
    rw [hbi] at this
    simp only [Bool.not_true, Bool.false_or] at this
    have hlt : e.on < ops.size := by
      have := hO i o (by rw [Array.getElem?_toList]; exact ho) e.on (by simp only [preds, List.mem_map, List.mem_filter]; exact ⟨e, ⟨he, hbi⟩, rfl⟩)
      omega
    rw [hlf _ hlt] at this
    exact (hl _ hlt).1 this

theorem linearise_sched {ops : Array Oper} (hO : Down ops.toList) (t : Nat) : Sched ops.toList [] (Region.linearise .any ops t) := by
  obtain ⟨r, h1, h2⟩ := go_sched hO ops.size t (Array.replicate ops.size false) [] (by simp) (by intro i hi; simp [Array.getD, hi]) (by simp) List.nodup_nil (by simp)
  unfold Region.linearise
  rw [h1]; simpa using h2
end Go.Tm
namespace Go.Tm

def isE (P : Program) (o : Oper) : Bool :=
  match kindOf P o.op with
  | .eff => true
  | .alloc => true
  | _ => false
def isR (P : Program) (o : Oper) : Bool :=
  match kindOf P o.op with
  | .read => true
  | _ => false

def tmpOf : Operand → Option Nat
  | .tmp t => some t
  | _ => none

def rdTmps (O : List Oper) (o : Oper) : List Nat :=
  (o.op.operands.toList.filterMap tmpOf) ++
    (match o.guard with
     | some (j, _) => match (O[j]?).bind (·.dst) with
       | some d => [d]
       | none => []
     | none => [])

/-- A store without a guard. -/
def plainStore (o : Oper) : Option (TypeId × Operand × Operand) :=
  match o.guard, o.op with
  | none, .store t a v => some (t, a, v)
  | _, _ => none

structure Draw (E : Env) (call : Caller) (O : List Oper) (sp : Option (Nat × Nat)) (c : Nat → St) : Prop where
  run : ∀ (i : Nat) (o : Oper), O[i]? = some o → aop1 E call O o (c i) = some (c (i + 1))
  down : Down O
  dsts : ∀ (i j : Nat) (o o' : Oper) (d : Nat), O[i]? = some o → O[j]? = some o' → o.dst = some d → o'.dst = some d → i = j
  rds : ∀ (i : Nat) (o : Oper) (t j : Nat) (o' : Oper), O[i]? = some o → t ∈ rdTmps O o → O[j]? = some o' → o'.dst = some t → bef (masks O []) j i = true ∨ bef (masks O []) i j = true ∨ i = j
  effs : ∀ (a b : Nat) (o o' : Oper), a < b → O[a]? = some o → O[b]? = some o' → isE E.P o = true → isE E.P o' = true → bef (masks O []) a b = true ∨ sp = some (a, b)
  stable : ∀ (i e : Nat) (o o' : Oper), O[i]? = some o → O[e]? = some o' → isR E.P o = true → isE E.P o' = true → bef (masks O []) i e = true ∨ bef (masks O []) e i = true ∨
    (awanted O (c i).tm o = true → aread E (c e).h (opd (c i).tm) o.op = aread E (c i).h (opd (c i).tm) o.op ∧ aread E (c (e + 1)).h (opd (c i).tm) o.op = aread E (c i).h (opd (c i).tm) o.op)
  sp1 : ∀ (y z : Nat), sp = some (y, z) → y < z ∧ ∃ (oy oz : Oper), O[y]? = some oy ∧ O[z]? = some oz ∧ isE E.P oy = true ∧ isE E.P oz = true ∧ ∃ ty ay vy tz az vz, plainStore oy = some (ty, ay, vy) ∧ plainStore oz = some (tz, az, vz) ∧
    ∀ a b, opd (c y).tm ay = .pointer (some a) → opd (c z).tm az = .pointer (some b) → apartW a (vcells (opd (c y).tm vy)).length b (vcells (opd (c z).tm vz)).length = true
  sp2 : ∀ (y z : Nat), sp = some (y, z) → ∀ (e : Nat) (o : Oper), O[e]? = some o → isE E.P o = true → e = y ∨ e = z ∨ (bef (masks O []) e y = true ∧ bef (masks O []) e z = true)
  sp3 : ∀ (y z : Nat), sp = some (y, z) → ∀ (i : Nat) (o : Oper), O[i]? = some o → isR E.P o = true → (bef (masks O []) i y = true ∧ bef (masks O []) i z = true) ∨ (bef (masks O []) y i = true ∧ bef (masks O []) z i = true)

def Fr (O : List Oper) (c : Nat → St) (D : List Nat) (tm : Tr Value) : Prop :=
  ∀ t, (∀ j o, j ∈ D → O[j]? = some o → o.dst = some t → fget tm t = fget (c (j + 1)).tm t) ∧ ((∀ j o, j ∈ D → O[j]? = some o → o.dst ≠ some t) → fget tm t = fget (c 0).tm t)

section
variable {E : Env} {call : Caller} {O : List Oper} {sp : Option (Nat × Nat)} {c : Nat → St}

theorem aop1_tm {o : Oper} {s s' : St} (h : aop1 E call O o s = some s') : ∃ v, s'.tm = aput s.tm o.dst v ∧ ((awanted O s.tm o = true ∧ aop E call o.op s = some (v, s'.h)) ∨ (awanted O s.tm o = false ∧ v = undef ∧ s'.h = s.h)) := by
  unfold aop1 at h
  split at h
  · rename_i hw
    split at h
    · rename_i v h' ha
      injection h with h; subst h
      exact ⟨v, rfl, .inl ⟨hw, ha⟩⟩
    · cases h
  · rename_i hw
    injection h with h; subst h
    exact ⟨undef, rfl, .inr ⟨by simpa using hw, rfl, rfl⟩⟩

theorem fget_aput (tm : Tr Value) (d : Option Nat) (v : Value) (t : Nat) : fget (aput tm d v) t = if d = some t then v else fget tm t := by
  cases d with
  | none => simp [aput]
  | some d => simp only [aput, fget_set]; by_cases e : d = t <;> simp [e]

theorem Draw.canon (W : Draw E call O sp c) : ∀ i, i ≤ O.length → Fr O c (List.range i) (c i).tm
  | 0, _ => fun t => ⟨fun j o hj => by simp at hj, fun _ => rfl⟩
  | i + 1, hi => by
    have ih := W.canon i (by omega)
    have ho : O[i]? = some O[i] := List.getElem?_eq_getElem (by omega)
    obtain ⟨v, hv, _⟩ := aop1_tm (W.run i _ ho)
    intro t
    rw [hv]
    constructor
    · intro j o hj hjo hd
      rw [fget_aput]
      by_cases e : j = i
      · subst e
        rw [ho] at hjo; injection hjo with hjo; subst hjo
        rw [hv, fget_aput]
      · have hji : j < i := by simp at hj; omega
        have : ¬ (O[i].dst = some t) := fun h => e (W.dsts j i o _ t hjo ho hd h)
        rw [if_neg this]
        exact (ih t).1 j o (by simpa using hji) hjo hd
    · intro hn
      rw [fget_aput, if_neg (hn i _ (by simp) ho)]
      exact (ih t).2 fun j o hj hjo => hn j o (by simp at hj ⊢; omega) hjo

theorem Draw.agree (W : Draw E call O sp c) {D : List Nat} (hD : Closed O D) {tm : Tr Value} (F : Fr O c D tm) {i : Nat} {o : Oper} (ho : O[i]? = some o) (hi : i ∉ D) (hr : ∀ o, O[i]? = some o → ∀ p, p ∈ preds o → p ∈ D) :
    ∀ t, t ∈ rdTmps O o → fget tm t = fget (c i).tm t := by
  intro t ht
  have hlen : i < O.length := (List.getElem?_eq_some_iff.1 ho).1
  have C := W.canon i (by omega)
  by_cases hx : ∃ (j : Nat) (o' : Oper), O[j]? = some o' ∧ o'.dst = some t
  · obtain ⟨j, o', hj, hd⟩ := hx
    rcases W.rds i o t j o' ho ht hj hd with h | h | h
    · have h1 := bef_ready hD hr h
      have h2 := bef_lt W.down i j h
      rw [(F t).1 j o' h1 hj hd, (C t).1 j o' (by simpa using h2) hj hd]
    · have h1 : j ∉ D := fun hjD => hi (bef_done hD j i hjD h)
      have h2 := bef_lt W.down j i h
      rw [(F t).2 (fun k ok hk hok hdk => by have := W.dsts j k o' ok t hj hok hd hdk; subst this; exact h1 hk),
        (C t).2 (fun k ok hk hok hdk => by have := W.dsts j k o' ok t hj hok hd hdk; subst this; simp at hk; omega)]
    · subst h
      rw [(F t).2 (fun k ok hk hok hdk => by have := W.dsts i k o' ok t hj hok hd hdk; subst this; exact hi hk),
        (C t).2 (fun k ok hk hok hdk => by have := W.dsts i k o' ok t hj hok hd hdk; subst this; simp at hk)]
  · have hn : ∀ (D' : List Nat) (j : Nat) (o' : Oper), j ∈ D' → O[j]? = some o' → o'.dst ≠ some t := fun _ j o' _ hj hd => hx ⟨j, o', hj, hd⟩
    rw [(F t).2 (hn D), (C t).2 (hn _)]

theorem opd_agree {o : Oper} {tm tm' : Tr Value} (h : ∀ t, t ∈ rdTmps O o → fget tm t = fget tm' t) : ∀ x, x ∈ o.op.operands → opd tm x = opd tm' x := by
  intro x hx
  cases x with
  | tmp t =>
    refine h t ?_
    unfold rdTmps
    refine List.mem_append_left _ ?_
    rw [List.mem_filterMap]
    exact ⟨.tmp t, by simpa using hx, rfl⟩
  | _ => rfl

theorem awanted_agree {o : Oper} {tm tm' : Tr Value} (h : ∀ t, t ∈ rdTmps O o → fget tm t = fget tm' t) : awanted O tm o = awanted O tm' o := by
  unfold awanted
  cases hg : o.guard with
  | none => rfl
  | some g =>
    obtain ⟨j, want⟩ := g
    simp only
    cases hd : (O[j]?).bind (·.dst) with
    | none => rfl
    | some d =>
      simp only
      rw [h d (by unfold rdTmps; rw [hg]; simp only [hd]; simp)]

/-- What is neither made nor written leaves the heap. -/
theorem quiet_h {o : Oper} {s s' : St} (hE : isE E.P o = false) (h : aop1 E call O o s = some s') : s'.h = s.h := by
  obtain ⟨v, _, h | h⟩ := aop1_tm h
  · have ha := h.2
    unfold aop at ha
    unfold isE at hE
    cases hk : kindOf E.P o.op <;> simp only [hk] at ha hE
    · cases hp : apure E.P (opd s.tm) o.op <;> simp [hp] at ha; exact ha.2.symm
    · cases hp : aread E s.h (opd s.tm) o.op <;> simp [hp] at ha; exact ha.2.symm
    · cases hE
    · cases hE
  · exact h.2.2

theorem Draw.flat (W : Draw E call O sp c) : ∀ (k a : Nat), a + k ≤ O.length → (∀ e o, a ≤ e → e < a + k → O[e]? = some o → isE E.P o = false) → (c (a + k)).h = (c a).h
  | 0, a, _, _ => rfl
  | k + 1, a, hl, hn => by
    have ih := W.flat k a (by omega) fun e o h1 h2 => hn e o h1 (by omega)
    have ho : O[a + k]? = some O[a + k] := List.getElem?_eq_getElem (by omega)
    rw [← ih]
    exact quiet_h (hn (a + k) _ (by omega) (by omega) ho) (W.run (a + k) _ ho)

theorem Draw.flat' (W : Draw E call O sp c) {a b : Nat} (hab : a ≤ b) (hb : b ≤ O.length) (hn : ∀ e o, a ≤ e → e < b → O[e]? = some o → isE E.P o = false) : (c b).h = (c a).h := by
  obtain ⟨k, rfl⟩ : ∃ k, b = a + k := ⟨b - a, by omega⟩
  exact W.flat k a hb hn

def HB (E : Env) (O : List Oper) (c : Nat → St) (D : List Nat) (h : Heap) : Prop :=
  (∀ e o, O[e]? = some o → isE E.P o = true → e ∉ D → (∀ e' o', e' < e → O[e']? = some o' → isE E.P o' = true → e' ∈ D) → h = (c e).h) ∧
  ((∀ e o, O[e]? = some o → isE E.P o = true → e ∈ D) → h = (c O.length).h)

theorem notE_of_R {P : Program} {o : Oper} (h : isR P o = true) : isE P o = false := by
  unfold isR at h; unfold isE
  cases hk : kindOf P o.op <;> simp only [hk] at h ⊢ <;> cases h

theorem Draw.span (W : Draw E call O sp c) {D : List Nat} (hD : Closed O D) {i : Nat} {o : Oper} (ho : O[i]? = some o) (hR : isR E.P o = true) (hi : i ∉ D) (hw : awanted O (c i).tm o = true) :
    ∀ k, i + k ≤ O.length → (∀ e o', i ≤ e → e < i + k → O[e]? = some o' → isE E.P o' = true → e ∈ D) → aread E (c (i + k)).h (opd (c i).tm) o.op = aread E (c i).h (opd (c i).tm) o.op
  | 0, _, _ => rfl
  | k + 1, hl, hn => by
    have ih := W.span hD ho hR hi hw k (by omega) fun e o' h1 h2 => hn e o' h1 (by omega)
    have hk : O[i + k]? = some O[i + k] := List.getElem?_eq_getElem (by omega)
    cases hE : isE E.P O[i + k] with
    | false =>
      have := quiet_h hE (W.run (i + k) _ hk)
      rw [show i + (k + 1) = i + k + 1 by omega, this]; exact ih
    | true =>
      have hd := hn (i + k) _ (by omega) (by omega) hk hE
      rcases W.stable i (i + k) o _ ho hk hR hE with h | h | h
      · exact absurd (bef_done hD _ _ hd h) hi
      · have := bef_lt W.down _ _ h; omega
      · rw [show i + (k + 1) = i + k + 1 by omega]; exact (h hw).2

theorem Draw.read_at (W : Draw E call O sp c) {D : List Nat} (hD : Closed O D) {h : Heap} (hb : HB E O c D h) {i : Nat} {o : Oper} (ho : O[i]? = some o) (hR : isR E.P o = true) (hi : i ∉ D)
    (hr : ∀ o, O[i]? = some o → ∀ p, p ∈ preds o → p ∈ D) (hw : awanted O (c i).tm o = true) : aread E h (opd (c i).tm) o.op = aread E (c i).h (opd (c i).tm) o.op := by
  have hlen : i < O.length := (List.getElem?_eq_some_iff.1 ho).1
  by_cases hx : ∃ (e : Nat) (o' : Oper), O[e]? = some o' ∧ isE E.P o' = true ∧ e ∉ D
  · obtain ⟨e0, he0⟩ := hx
    obtain ⟨e, _, ⟨o', he, hE, heD⟩, hmin⟩ := least_not (fun e => ∃ o', O[e]? = some o' ∧ isE E.P o' = true ∧ e ∉ D) e0 he0
    have hfirst : ∀ e' o', e' < e → O[e']? = some o' → isE E.P o' = true → e' ∈ D := fun e' o' hlt h1 h2 => Classical.byContradiction fun h3 => hmin e' hlt ⟨o', h1, h2, h3⟩
    rw [hb.1 e o' he hE heD hfirst]
    rcases W.stable i e o o' ho he hR hE with h | h | h
    · have hlt := bef_lt W.down _ _ h
      have hel : e < O.length := (List.getElem?_eq_some_iff.1 he).1
      have := W.span hD ho hR hi hw (e - i) (by omega) fun e' o'' h1 h2 h3 h4 => hfirst e' o'' (by omega) h3 h4
      rwa [show i + (e - i) = e by omega] at this
    · exact absurd (bef_ready hD hr h) heD
    · exact (h hw).1
  · have hall : ∀ e o', O[e]? = some o' → isE E.P o' = true → e ∈ D := fun e o' h1 h2 => Classical.byContradiction fun h3 => hx ⟨e, o', h1, h2, h3⟩
    rw [hb.2 hall]
    have := W.span hD ho hR hi hw (O.length - i) (by omega) fun e' o'' h1 h2 h3 h4 => hall e' o'' h3 h4
    rwa [show i + (O.length - i) = O.length by omega] at this

theorem HB.quiet {D : List Nat} {h : Heap} (hb : HB E O c D h) {i : Nat} {o : Oper} (ho : O[i]? = some o) (hE : isE E.P o = false) : HB E O c (i :: D) h := by
  have hne : ∀ e o', O[e]? = some o' → isE E.P o' = true → e ≠ i := by
    intro e o' h1 h2 h3
    subst h3; rw [ho] at h1; injection h1 with h1; subst h1; rw [hE] at h2; cases h2
  constructor
  · intro e o' he hE' heD hf
    refine hb.1 e o' he hE' (fun hh => heD (List.mem_cons_of_mem _ hh)) fun e' o'' hlt h1 h2 => ?_
    have := hf e' o'' hlt h1 h2
    simp only [List.mem_cons] at this
    rcases this with h3 | h3
    · exact absurd h3 (hne e' o'' h1 h2)
    · exact h3
  · intro hall
    refine hb.2 fun e o' h1 h2 => ?_
    have := hall e o' h1 h2
    simp only [List.mem_cons] at this
    rcases this with h3 | h3
    · exact absurd h3 (hne e o' h1 h2)
    · exact h3

/-- A step that makes or writes, where all before it are done and none behind it. -/
theorem Draw.eff_step (W : Draw E call O sp c) {D : List Nat} {h : Heap} (hb : HB E O c D h) {i : Nat} {o : Oper} (ho : O[i]? = some o) (hE : isE E.P o = true) (hi : i ∉ D)
    (hlo : ∀ e o', e < i → O[e]? = some o' → isE E.P o' = true → e ∈ D) (hhi : ∀ e o', i < e → O[e]? = some o' → isE E.P o' = true → e ∉ D) : h = (c i).h ∧ HB E O c (i :: D) (c (i + 1)).h := by
  have hlen : i < O.length := (List.getElem?_eq_some_iff.1 ho).1
  refine ⟨hb.1 i o ho hE hi hlo, ?_, ?_⟩
  · intro e o' he hE' heD hf
    have hel : e < O.length := (List.getElem?_eq_some_iff.1 he).1
    simp only [List.mem_cons, not_or] at heD
    have hie : i < e := by
      rcases Nat.lt_trichotomy e i with h1 | h1 | h1
      · exact absurd (hlo e o' h1 he hE') heD.2
      · exact absurd h1 heD.1
      · exact h1
    refine (W.flat' (by omega) (by omega) ?_).symm
    intro e' o'' h1 h2 h3
    cases h4 : isE E.P o'' with
    | false => rfl
    | true =>
      have := hf e' o'' h2 h3 h4
      simp only [List.mem_cons] at this
      rcases this with h5 | h5
      · omega
      · exact absurd h5 (hhi e' o'' (by omega) h3 h4)
  · intro hall
    refine (W.flat' (by omega) (Nat.le_refl _) ?_).symm
    intro e' o'' h1 h2 h3
    cases h4 : isE E.P o'' with
    | false => rfl
    | true =>
      have := hall e' o'' h3 h4
      simp only [List.mem_cons] at this
      rcases this with h5 | h5
      · omega
      · exact absurd h5 (hhi e' o'' (by omega) h3 h4)
end
end Go.Tm
