/- The engine, seventeenth part: what an operation gives hangs on its operands alone; values held against one another; writes that do not meet. -/
import Derived.Test.YtigifaghgnbgoaaGreatEng15
namespace Go.Tm

theorem apure_congr {P : Program} {f g : Operand → Value} {op : Op} (h : ∀ x, x ∈ op.operands → f x = g x) : apure P f op = apure P g op := by
  have am : ∀ (l : Array Operand), (∀ x, x ∈ l → f x = g x) → l.toList.map f = l.toList.map g := fun l hl => List.map_congr_left fun x hx => hl x (by simpa using hx)
  cases op with
  | move x => simp only [apure, h x (by simp [Op.operands])]
  | assign x => simp only [apure, h x (by simp [Op.operands])]
  | pick c a b => simp only [apure, h c (by simp [Op.operands]), h a (by simp [Op.operands]), h b (by simp [Op.operands])]
  | build t ps =>
    have : (ps.toList.map fun p => (p.1, f p.2)) = ps.toList.map fun p => (p.1, g p.2) := List.map_congr_left fun p hp => by
      rw [h p.2 (by simp only [Op.operands, List.mem_toArray, List.mem_map]; exact ⟨p, hp, rfl⟩)]
    simp only [apure, this]
  | nilCheck x => simp only [apure, h x (by simp [Op.operands])]
  | binOp op t x y yt => simp only [apure, h x (by simp [Op.operands]), h y (by simp [Op.operands])]
  | unOp op t x => simp only [apure, h x (by simp [Op.operands])]
  | convert s d x => simp only [apure, h x (by simp [Op.operands])]
  | makeInterface t x => simp only [apure, h x (by simp [Op.operands])]
  | makeFunc fn a b =>
    have h1 := am a (fun x hx => h x (by simp [Op.operands, hx]))
    have h2 := am b (fun x hx => h x (by simp [Op.operands, hx]))
    cases fn <;> simp only [apure, h1, h2]
  | slice t x lo hi mx =>
    have h1 : lo.map f = lo.map g := by cases lo <;> simp; exact h _ (by simp [Op.operands])
    have h2 : hi.map f = hi.map g := by cases hi <;> simp; exact h _ (by simp [Op.operands])
    have h3 := h x (by simp [Op.operands])
    cases mx <;> simp only [apure, h1, h2, h3]
  | fieldAddr t x k => simp only [apure, h x (by simp [Op.operands])]
  | field t x k => simp only [apure, h x (by simp [Op.operands])]
  | indexAddr t x i => simp only [apure, h x (by simp [Op.operands]), h i (by simp [Op.operands])]
  | index t x i => simp only [apure, h x (by simp [Op.operands]), h i (by simp [Op.operands])]
  | extract x i => simp only [apure, h x (by simp [Op.operands])]
  | call c =>
    obtain ⟨callee, args, ats⟩ := c
    have ha := am args fun x hx => h x (by simp [Op.operands, Call.operands, hx])
    cases callee with
    | value y => rfl
    | invoke y name => rfl
    | builtin b =>
      cases b <;> try rfl
      · have hl : ∀ (l : List Operand) (ts : List TypeId), (∀ x, x ∈ l → f x = g x) → (match l, ts with
          | [x], [t] => alen P t (f x)
          | _, _ => none) = match l, ts with
          | [x], [t] => alen P t (g x)
          | _, _ => none := by
          intro l ts hl
          split
          · rw [hl _ (by simp)]
          · rfl
        exact hl args.toList ats.toList fun x hx => h x (by simp [Op.operands, Call.operands]; simpa using hx)
      · simp only [apure, ha]
      · simp only [apure, ha]
  | _ => rfl

theorem aread_congr {E : Env} {hp : Heap} {f g : Operand → Value} {op : Op} (h : ∀ x, x ∈ op.operands → f x = g x) : aread E hp f op = aread E hp g op := by
  cases op with
  | load t x => simp only [aread, h x (by simp [Op.operands])]
  | lookup t x i ok => simp only [aread, h x (by simp [Op.operands]), h i (by simp [Op.operands])]
  | convert s d x => simp only [aread, h x (by simp [Op.operands])]
  | _ => rfl

theorem aalloc_congr {P : Program} {f g : Operand → Value} {op : Op} (h : ∀ x, x ∈ op.operands → f x = g x) : aalloc P f op = aalloc P g op := by
  cases op with
  | box e x => simp only [aalloc, h x (by simp [Op.operands])]
  | buildSlice t l ps =>
    have : (ps.toList.map fun p => (p.1, f p.2)) = ps.toList.map fun p => (p.1, g p.2) := List.map_congr_left fun p hp => by
      rw [h p.2 (by simp only [Op.operands, List.mem_toArray, List.mem_map]; exact ⟨p, hp, rfl⟩)]
    simp only [aalloc, this]
  | makeSlice t l c => simp only [aalloc, h l (by simp [Op.operands]), h c (by simp [Op.operands])]
  | makeMap t r => cases r <;> rfl
  | range t x => simp only [aalloc, h x (by simp [Op.operands])]
  | _ => rfl

def aeffB (E : Env) (h : Heap) (ev : Operand → Value) (b : Builtin) (args : List Operand) (ts : List TypeId) : Option Eff :=
  match b, args, ts with
  | .append, [s, x], [t, t1] => (aappend E h t t1 (ev s) (ev x)).map fun p => .val p.1 p.2
  | .copy, [d, x], [t, _] => (acopy E h t (ev d) (ev x)).map fun p => .val p.1 p.2
  | .clear, [x], [t] => (aclear E h t (ev x)).map (.val (.tuple #[]))
  | _, _, _ => none

theorem aeffB_congr {E : Env} {hp : Heap} {f g : Operand → Value} {b : Builtin} {args : List Operand} {ts : List TypeId} (h : ∀ x, x ∈ args → f x = g x) : aeffB E hp f b args ts = aeffB E hp g b args ts := by
  unfold aeffB
  split
  · rw [h _ (by simp), h _ (by simp)]
  · rw [h _ (by simp), h _ (by simp)]
  · rw [h _ (by simp)]
  · rfl

theorem aeff_builtin {E : Env} {hp : Heap} {f : Operand → Value} {b : Builtin} {args : Array Operand} {ts : Array TypeId} : aeff E hp f (.call { callee := .builtin b, args, argTypes := ts }) = aeffB E hp f b args.toList ts.toList := rfl

theorem aeff_congr {E : Env} {hp : Heap} {f g : Operand → Value} {op : Op} (h : ∀ x, x ∈ op.operands → f x = g x) : aeff E hp f op = aeff E hp g op := by
  cases op with
  | store t x v => simp only [aeff, h x (by simp [Op.operands]), h v (by simp [Op.operands])]
  | next x b => simp only [aeff, h x (by simp [Op.operands])]
  | insert t x k v => simp only [aeff, h x (by simp [Op.operands]), h k (by simp [Op.operands]), h v (by simp [Op.operands])]
  | mapUpdate t x k v => simp only [aeff, h x (by simp [Op.operands]), h k (by simp [Op.operands]), h v (by simp [Op.operands])]
  | call c =>
    obtain ⟨callee, args, ats⟩ := c
    have ha : args.toList.map f = args.toList.map g := List.map_congr_left fun x hx => h x (by simp [Op.operands, Call.operands]; right; simpa using hx)
    cases callee with
    | value y => simp only [aeff, ha, h y (by simp [Op.operands, Call.operands])]
    | invoke y name => simp only [aeff, ha, h y (by simp [Op.operands, Call.operands])]
    | builtin b =>
      rw [aeff_builtin, aeff_builtin]
      exact aeffB_congr fun x hx => h x (by simp [Op.operands, Call.operands]; simpa using hx)
  | _ => rfl

theorem aop_congr {E : Env} {call : Caller} {op : Op} {tm tm' : Tr Value} {h : Heap} (he : ∀ x, x ∈ op.operands → opd tm x = opd tm' x) : aop E call op ⟨tm, h⟩ = aop E call op ⟨tm', h⟩ := by
  simp only [aop, apure_congr he, aread_congr he, aalloc_congr he, aeff_congr he]

mutual
def veq : Value → Value → Bool
  | .bool a, .bool b => a == b
  | .int k a, .int j b => decide (k = j) && decide (a = b)
  | .string a, .string b => a.data.toList == b.data.toList
  | .pointer none, .pointer none => true
  | .pointer (some a), .pointer (some b) => decide (a = b)
  | .slice none l c, .slice none m d => decide (l = m) && decide (c = d)
  | .slice (some a) l c, .slice (some b) m d => decide (a = b) && (decide (l = m) && decide (c = d))
  | .map none, .map none => true
  | .map (some a), .map (some b) => decide (a = b)
  | .nilFunc, .nilFunc => true
  | .nilIface, .nilIface => true
  | .func f x y, .func g u v => decide (f = g) && (veqA x u && veqA y v)
  | .iface t v, .iface u w => decide (t = u) && veq v w
  | .agg x, .agg y => veqA x y
  | .tuple x, .tuple y => veqA x y
  | _, _ => false
def veqA : Array Value → Array Value → Bool
  | ⟨l⟩, ⟨m⟩ => veqL l m
def veqL : List Value → List Value → Bool
  | [], [] => true
  | v :: l, w :: m => veq v w && veqL l m
  | _, _ => false
end

mutual
theorem veq_eq : ∀ a b, veq a b = true → a = b
  | .bool a, b, h => by cases b <;> simp_all [veq]
  | .int k a, b, h => by cases b <;> simp_all [veq]
  | .string a, b, h => by
    cases b <;> simp only [veq] at h <;> first | (cases h; done) | skip
    rename_i b
    have : a.data.toList = b.data.toList := by simpa using h
    congr 1
    cases a; cases b
    congr 1
    exact Array.ext' this
  | .pointer none, b, h => by cases b with
    | pointer q => cases q <;> simp_all [veq]
    | _ => simp [veq] at h
  | .pointer (some a), b, h => by cases b with
    | pointer q => cases q <;> simp_all [veq]
    | _ => simp [veq] at h
  | .slice none l c, b, h => by cases b with
    | slice q m d => cases q <;> simp_all [veq]
    | _ => simp [veq] at h
  | .slice (some a) l c, b, h => by cases b with
    | slice q m d => cases q <;> simp_all [veq]
    | _ => simp [veq] at h
  | .map none, b, h => by cases b with
    | map q => cases q <;> simp_all [veq]
    | _ => simp [veq] at h
  | .map (some a), b, h => by cases b with
    | map q => cases q <;> simp_all [veq]
    | _ => simp [veq] at h
  | .nilFunc, b, h => by cases b <;> simp_all [veq]
  | .nilIface, b, h => by cases b <;> simp_all [veq]
  | .func f x y, b, h => by
    cases b <;> simp only [veq] at h <;> first | (cases h; done) | skip
    simp only [Bool.and_eq_true, decide_eq_true_eq] at h
    rw [h.1, veqA_eq _ _ h.2.1, veqA_eq _ _ h.2.2]
  | .iface t v, b, h => by
    cases b <;> simp only [veq] at h <;> first | (cases h; done) | skip
    simp only [Bool.and_eq_true, decide_eq_true_eq] at h
    rw [h.1, veq_eq _ _ h.2]
  | .agg x, b, h => by
    cases b <;> simp only [veq] at h <;> first | (cases h; done) | skip
    rw [veqA_eq _ _ h]
  | .tuple x, b, h => by
    cases b <;> simp only [veq] at h <;> first | (cases h; done) | skip
    rw [veqA_eq _ _ h]
  | .float k a, b, h => by simp [veq] at h
  | .complex k a c, b, h => by simp [veq] at h
  | .chan a, b, h => by simp [veq] at h
theorem veqA_eq : ∀ a b, veqA a b = true → a = b
  | ⟨l⟩, ⟨m⟩, h => by simp only [veqA] at h; rw [veqL_eq l m h]
theorem veqL_eq : ∀ l m, veqL l m = true → l = m
  | [], m, h => by cases m <;> simp_all [veqL]
  | v :: l, m, h => by
    cases m with
    | nil => simp [veqL] at h
    | cons w m =>
      simp only [veqL, Bool.and_eq_true] at h
      rw [veq_eq v w h.1, veqL_eq l m h.2]
end

/-- Two heaps that hold the same. -/
def Same (h h' : Heap) : Prop := h.next = h'.next ∧ ∀ b, h.get b = h'.get b

theorem Same.refl (h : Heap) : Same h h := ⟨rfl, fun _ => rfl⟩
theorem Same.symm {h h' : Heap} (s : Same h h') : Same h' h := ⟨s.1.symm, fun b => (s.2 b).symm⟩
theorem Same.trans {h h' h'' : Heap} (s : Same h h') (t : Same h' h'') : Same h h'' := ⟨s.1.trans t.1, fun b => (s.2 b).trans (t.2 b)⟩

theorem HR.same {E : Env} {B : Nat} {ρ : Ren} {h h' : Heap} {w : World} (H : HR E B ρ h w) (s : Same h h') : HR E B ρ h' w where
  base_le := s.1 ▸ H.base_le
  base_B := H.base_B
  B_le := H.B_le
  fix := H.fix
  ro := H.ro
  live := fun b o hb => by rw [← s.2] at hb; rw [← s.1]; exact H.live b o hb
  inj := fun b b' o o' h1 h2 => by rw [← s.2] at h1 h2; exact H.inj b b' o o' h1 h2

theorem Step.same {E : Env} {B : Nat} {ρ ρ' : Ren} {h h1 h2 : Heap} {w w' : World} (t : Step E B ρ h w ρ' h1 w') (s : Same h1 h2) : Step E B ρ h w ρ' h2 w' where
  hr := t.hr.same s
  ext := t.ext
  le := s.1 ▸ t.le
  frame := t.frame
  range := fun b o hb => by rw [← s.2] at hb; exact t.range b o hb
  size := t.size
  os := t.os
  tape := t.tape
  output := t.output

/-- Two writes that do not meet. -/
def apartW (a : Addr) (n : Nat) (b : Addr) (m : Nat) : Bool := decide (a.block ≠ b.block ∨ a.off + n ≤ b.off ∨ b.off + m ≤ a.off)

theorem splice_comm {c u v : List Value} {i j : Nat} (hi : i + u.length ≤ c.length) (hj : j + v.length ≤ c.length) (h : i + u.length ≤ j ∨ j + v.length ≤ i) : splice (splice c i u) j v = splice (splice c j v) i u := by
  apply List.ext_getElem?
  intro k
  rw [splice_get (by rw [splice_length hi]; exact hj), splice_get hi, splice_get (by rw [splice_length hj]; exact hi), splice_get hj]
  by_cases h1 : k < j <;> by_cases h2 : k < j + v.length <;> by_cases h3 : k < i <;> by_cases h4 : k < i + u.length <;> simp [h1, h2, h3, h4] <;> omega

theorem awrite_comm {h h1 h2 : Heap} {a b : Addr} {u v : List Value} (hu : awrite h a u = some h1) (hv : awrite h1 b v = some h2) (hap : apartW a u.length b v.length = true) :
    ∃ h3 h4, awrite h b v = some h3 ∧ awrite h3 a u = some h4 ∧ Same h4 h2 := by
  unfold awrite at hu
  split at hu
  · cases hu
  · rename_i hsa
    split at hu
    · rename_i c e fx hg
      split at hu
      · rename_i hc
        injection hu with hu; subst hu
        unfold awrite at hv
        split at hv
        · cases hv
        · rename_i hsb
          simp only [get_put] at hv
          simp only [apartW, decide_eq_true_eq] at hap
          by_cases hb : a.block = b.block
          · rw [if_pos hb] at hv
            simp only at hv
            split at hv
            · rename_i hc2
              injection hv with hv; subst hv
              rw [splice_length hc.1] at hc2
              have hg2 : h.get b.block = some (.cells c e fx) := hb ▸ hg
              refine ⟨h.put b.block (.cells (splice c b.off v) e fx), (h.put b.block (.cells (splice c b.off v) e fx)).put a.block (.cells (splice (splice c b.off v) a.off u) e fx), ?_, ?_, ?_⟩
              · unfold awrite; rw [hsb]; simp only [hg2]; rw [if_pos hc2]
              · unfold awrite; rw [hsa]; simp only [get_put, hb, if_true]; rw [splice_length hc2.1, if_pos hc]
              · refine ⟨rfl, fun k => ?_⟩
                simp only [get_put, hb]
                by_cases hk : b.block = k
                · simp only [if_pos hk]
                  rw [splice_comm hc2.1 hc.1 (by omega)]
                · simp only [if_neg hk]
            · cases hv
          · rw [if_neg hb] at hv
            split at hv
            · rename_i c2 e2 fx2 hg2
              split at hv
              · rename_i hc2
                injection hv with hv; subst hv
                refine ⟨h.put b.block (.cells (splice c2 b.off v) e2 fx2), (h.put b.block (.cells (splice c2 b.off v) e2 fx2)).put a.block (.cells (splice c a.off u) e fx), ?_, ?_, ?_⟩
                · unfold awrite; rw [hsb]; simp only [hg2]; rw [if_pos hc2]
                · unfold awrite; rw [hsa]; simp only [get_put, if_neg (fun x => hb (Eq.symm x)), hg]; rw [if_pos hc]
                · refine ⟨rfl, fun k => ?_⟩
                  simp only [get_put]
                  by_cases hk : a.block = k <;> by_cases hk2 : b.block = k <;> simp [hk, hk2]
                  exact absurd (hk.trans hk2.symm) hb
              · cases hv
            · cases hv
      · cases hu
    · cases hu
end Go.Tm
