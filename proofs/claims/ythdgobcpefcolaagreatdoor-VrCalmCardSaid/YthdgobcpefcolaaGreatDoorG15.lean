/- Chapter 25: the model's small functions. -/
/- Merged by a program of ours: U1 XV1 XV3 U2. -/
import Derived.Test.YthdgobcpefcolaaGreatDoorG14
import Derived.Test.YthdgobcpefcolaaGreatDoorG12
import Derived.Test.YthdgobcpefcolaaGreatDoorG13
import Derived.Test.YthdgobcpefcolaaGreatDoorCards
import Derived.Test.YthdgobcpefcolaaGreatDoorTie
import Derived.ProofKit
import Derived.OpenShut
import Derived.Lay
import Derived.Deep.DeepHandedRow
import Derived.Carry
set_option maxRecDepth 10000
set_option linter.all false
set_option linter.unusedSimpArgs false
set_option linter.unusedVariables false
/- Chapter 25: entries, messages, services, replicas of the model in memory that stays. -/
namespace Go.Tm
open Vr
/-- What is small enough: 2^40. -/
def Sm (n : Nat) : Prop := n ≤ 1099511627776
abbrev iv (n : Nat) : Value := .int .i64 (n : Int)
def entC (e : Ent) : List Value := [iv e.c, iv e.n, .string e.t]
def entsC (l : List Ent) : List Value := l.flatMap entC
def intsC (l : List Nat) : List Value := l.map iv
def boolsC (l : List Bool) : List Value := l.map .bool
def bytesC (l : List UInt8) : List Value := l.map fun c => .int .u8 (c.toNat : Int)
theorem entsC_len (l : List Ent) : (entsC l).length = l.length * 3 := by
  induction l with
  | nil => rfl
  | cons x l ih => simp only [entsC, List.flatMap_cons, List.length_append, List.length_cons] at ih ⊢; rw [ih]; simp [entC]; omega
theorem entsC_app (l l' : List Ent) : entsC (l ++ l') = entsC l ++ entsC l' := by simp [entsC]
theorem entsC_cons (e : Ent) (l : List Ent) : entsC (e :: l) = entC e ++ entsC l := by simp [entsC]
theorem entsC_at : ∀ {l : List Ent} {i : Nat} {e : Ent}, l[i]? = some e → ((entsC l).drop (i * 3)).take 3 = entC e
  | x :: l, 0, e, h => by
    injection h with h
    subst h
    rfl
  | x :: l, i + 1, e, h => by
    have := entsC_at (l := l) (i := i) (e := e) (by simpa using h)
    rw [entsC_cons, show (i + 1) * 3 = (entC x).length + i * 3 by simp [entC]; omega, ← List.drop_drop, List.drop_left]
    · exact this
theorem entsC_drop : ∀ (l : List Ent) (i : Nat), (entsC l).drop (i * 3) = entsC (l.drop i)
  | [], i => by simp [entsC]
  | x :: l, 0 => by simp
  | x :: l, i + 1 => by
    rw [entsC_cons, show (i + 1) * 3 = (entC x).length + i * 3 by simp [entC]; omega, ← List.drop_drop, List.drop_left, entsC_drop]
    rfl
theorem entsC_take : ∀ (l : List Ent) (i : Nat), (entsC l).take (i * 3) = entsC (l.take i)
  | [], i => by simp [entsC]
  | x :: l, 0 => by simp [entsC]
  | x :: l, i + 1 => by
    rw [entsC_cons, show (i + 1) * 3 = (entC x).length + i * 3 by simp [entC]; omega, List.take_length_add_append, entsC_take, List.take_succ_cons, entsC_cons]
theorem entsC_one : ∀ (l : List Ent), (entsC l).all Value.oneCell' = true
  | [] => rfl
  | x :: l => by rw [entsC_cons, List.all_append, entsC_one l]; rfl
/-- A message's cells. -/
def MgR (E : Env) (G : Mem) (m : Mg) (cs : List Value) : Prop :=
  ∃ sl si sd, cs = [iv m.k, iv m.fr, iv m.to, iv m.vw, iv m.op, iv m.cm, iv m.bs, iv m.nm, iv m.nc, sl, si, iv m.en.c, iv m.en.n, .string m.en.t, iv m.rp.e, iv m.rp.n, sd] ∧
    Fz E G 3 m.log.length (entsC m.log) sl ∧ Fz E G 1 m.img.length (bytesC m.img) si ∧ Fz E G 5 0 [] sd
def MgsR (E : Env) (G : Mem) : List Mg → List Value → Prop
  | [], c => c = []
  | v :: l, c => ∃ c1 c2, c = c1 ++ c2 ∧ MgR E G v c1 ∧ MgsR E G l c2
/-- The table's rows. -/
def LaR (E : Env) (G : Mem) (x : La) (cs : List Value) : Prop := ∃ sd, cs = [iv x.c, iv x.n, iv x.r.e, iv x.r.n, sd] ∧ Fz E G 5 0 [] sd
def LasR (E : Env) (G : Mem) : List La → List Value → Prop
  | [], c => c = []
  | v :: l, c => ∃ c1 c2, c = c1 ++ c2 ∧ LaR E G v c1 ∧ LasR E G l c2
def SvR (E : Env) (G : Mem) (s : Sv) (cs : List Value) : Prop :=
  ∃ sl st ct, cs = [.bool false, sl, .slice none 0 0, st] ∧ Fz E G 3 s.l.length (entsC s.l) sl ∧ Fz E G 5 s.tab.length ct st ∧ LasR E G s.tab ct
def PRR (E : Env) (G : Mem) (P : PR) (cs : List Value) : Prop :=
  ∃ sl ss stl sv sc sa cc ca, cs = [iv P.me, iv P.n, iv P.vw, iv P.st, iv P.nm, iv P.bs, iv P.cm, iv P.nc, sl] ++ ss ++ [stl, sv, .bool P.sent, sc, sa] ∧
    Fz E G 3 P.log.length (entsC P.log) sl ∧ SvR E G P.sv ss ∧ Fz E G 1 P.told.length (intsC P.told) stl ∧ Fz E G 1 P.voted.length (boolsC P.voted) sv ∧
    Fz E G 17 P.came.length cc sc ∧ MgsR E G P.came cc ∧ Fz E G 17 P.ans.length ca sa ∧ MgsR E G P.ans ca
theorem MgR.e {E : Env} {G : Mem} {m : Mg} {cs : List Value} (h : MgR E G m cs) : ∃ a1 c1 a2 c2 a3 c3, cs = [iv m.k, iv m.fr, iv m.to, iv m.vw, iv m.op, iv m.cm, iv m.bs, iv m.nm, iv m.nc, .slice a1 m.log.length c1, .slice a2 m.img.length c2, iv m.en.c, iv m.en.n, .string m.en.t, iv m.rp.e, iv m.rp.n, .slice a3 0 c3] ∧
    Fz E G 3 m.log.length (entsC m.log) (.slice a1 m.log.length c1) ∧ Fz E G 1 m.img.length (bytesC m.img) (.slice a2 m.img.length c2) ∧ Fz E G 5 0 [] (.slice a3 0 c3) := by
  obtain ⟨_, _, _, rfl, h1, h2, h3⟩ := h
  obtain ⟨a1, c1, rfl, _⟩ := h1.slice
  obtain ⟨a2, c2, rfl, _⟩ := h2.slice
  obtain ⟨a3, c3, rfl, _⟩ := h3.slice
  exact ⟨_, _, _, _, _, _, rfl, h1, h2, h3⟩
theorem SvR.e {E : Env} {G : Mem} {s : Sv} {cs : List Value} (h : SvR E G s cs) : ∃ a1 c1 a2 c2 ct, cs = [.bool false, .slice a1 s.l.length c1, .slice none 0 0, .slice a2 s.tab.length c2] ∧
    Fz E G 3 s.l.length (entsC s.l) (.slice a1 s.l.length c1) ∧ Fz E G 5 s.tab.length ct (.slice a2 s.tab.length c2) ∧ LasR E G s.tab ct := by
  obtain ⟨_, _, _, rfl, h1, h2, h3⟩ := h
  obtain ⟨a1, c1, rfl, _⟩ := h1.slice
  obtain ⟨a2, c2, rfl, _⟩ := h2.slice
  exact ⟨_, _, _, _, _, rfl, h1, h2, h3⟩
theorem PRR.e {E : Env} {G : Mem} {P : PR} {cs : List Value} (h : PRR E G P cs) : ∃ a1 c1 a2 c2 a3 c3 a4 c4 a5 c5 a6 c6 a7 c7 ct cc ca,
    cs = [iv P.me, iv P.n, iv P.vw, iv P.st, iv P.nm, iv P.bs, iv P.cm, iv P.nc, .slice a1 P.log.length c1, .bool false, .slice a2 P.sv.l.length c2, .slice none 0 0, .slice a3 P.sv.tab.length c3, .slice a4 P.told.length c4, .slice a5 P.voted.length c5, .bool P.sent, .slice a6 P.came.length c6, .slice a7 P.ans.length c7] ∧
    Fz E G 3 P.log.length (entsC P.log) (.slice a1 P.log.length c1) ∧
    (Fz E G 3 P.sv.l.length (entsC P.sv.l) (.slice a2 P.sv.l.length c2) ∧ Fz E G 5 P.sv.tab.length ct (.slice a3 P.sv.tab.length c3) ∧ LasR E G P.sv.tab ct) ∧
    Fz E G 1 P.told.length (intsC P.told) (.slice a4 P.told.length c4) ∧ Fz E G 1 P.voted.length (boolsC P.voted) (.slice a5 P.voted.length c5) ∧
    (Fz E G 17 P.came.length cc (.slice a6 P.came.length c6) ∧ MgsR E G P.came cc) ∧ (Fz E G 17 P.ans.length ca (.slice a7 P.ans.length c7) ∧ MgsR E G P.ans ca) := by
  obtain ⟨_, _, _, _, _, _, _, _, rfl, h1, h2, h3, h4, h5, h6, h7, h8⟩ := h
  obtain ⟨a2, c2, a3, c3, ct, rfl, h9⟩ := h2.e
  obtain ⟨a1, c1, rfl, _⟩ := h1.slice
  obtain ⟨a4, c4, rfl, _⟩ := h3.slice
  obtain ⟨a5, c5, rfl, _⟩ := h4.slice
  obtain ⟨a6, c6, rfl, _⟩ := h5.slice
  obtain ⟨a7, c7, rfl, _⟩ := h7.slice
  exact ⟨_, _, _, _, _, _, _, _, _, _, _, _, _, _, _, _, _, rfl, h1, h9, h3, h4, ⟨h5, h6⟩, h7, h8⟩
theorem PRR.of {E : Env} {G : Mem} {P : PR} {sl sv2 st stl sv sc sa : Value} {ct cc ca : List Value} (h1 : Fz E G 3 P.log.length (entsC P.log) sl) (h2 : Fz E G 3 P.sv.l.length (entsC P.sv.l) sv2) (h3 : Fz E G 5 P.sv.tab.length ct st) (h4 : LasR E G P.sv.tab ct)
    (h5 : Fz E G 1 P.told.length (intsC P.told) stl) (h6 : Fz E G 1 P.voted.length (boolsC P.voted) sv) (h7 : Fz E G 17 P.came.length cc sc ∧ MgsR E G P.came cc) (h8 : Fz E G 17 P.ans.length ca sa ∧ MgsR E G P.ans ca) :
    PRR E G P [iv P.me, iv P.n, iv P.vw, iv P.st, iv P.nm, iv P.bs, iv P.cm, iv P.nc, sl, .bool false, sv2, .slice none 0 0, st, stl, sv, .bool P.sent, sc, sa] :=
  ⟨sl, [.bool false, sv2, .slice none 0 0, st], stl, sv, sc, sa, cc, ca, rfl, h1, ⟨_, _, _, rfl, h2, h3, h4⟩, h5, h6, h7.1, h7.2, h8.1, h8.2⟩
theorem MgR.len {E : Env} {G : Mem} {m : Mg} {c : List Value} (h : MgR E G m c) : c.length = 17 := by
  obtain ⟨_, _, _, rfl, _⟩ := h; rfl
theorem LaR.len {E : Env} {G : Mem} {m : La} {c : List Value} (h : LaR E G m c) : c.length = 5 := by
  obtain ⟨_, rfl, _⟩ := h; rfl
theorem SvR.len {E : Env} {G : Mem} {m : Sv} {c : List Value} (h : SvR E G m c) : c.length = 4 := by
  obtain ⟨_, _, _, rfl, _⟩ := h; rfl
theorem PRR.len {E : Env} {G : Mem} {m : PR} {c : List Value} (h : PRR E G m c) : c.length = 18 := by
  obtain ⟨_, ss, _, _, _, _, _, _, rfl, _, h, _⟩ := h
  simp [h.len]
theorem MgR.one' {E : Env} {G : Mem} {m : Mg} {c : List Value} (h : MgR E G m c) : c.all Value.oneCell' = true := by
  obtain ⟨_, _, _, _, _, _, rfl, _⟩ := h.e; rfl
theorem MgsR.one' {E : Env} {G : Mem} : ∀ {l : List Mg} {c : List Value}, MgsR E G l c → c.all Value.oneCell' = true
  | [], c, h => by rw [show c = [] from h]; rfl
  | v :: l, c, h => by
    obtain ⟨c1, c2, rfl, h1, h2⟩ := h
    rw [List.all_append, h1.one', h2.one']; rfl
theorem LaR.one' {E : Env} {G : Mem} {m : La} {c : List Value} (h : LaR E G m c) : c.all Value.oneCell' = true := by
  obtain ⟨_, rfl, h⟩ := h
  obtain ⟨_, _, rfl, _⟩ := h.slice; rfl
theorem LasR.one' {E : Env} {G : Mem} : ∀ {l : List La} {c : List Value}, LasR E G l c → c.all Value.oneCell' = true
  | [], c, h => by rw [show c = [] from h]; rfl
  | v :: l, c, h => by
    obtain ⟨c1, c2, rfl, h1, h2⟩ := h
    rw [List.all_append, h1.one', h2.one']; rfl
theorem MgsR.len {E : Env} {G : Mem} : ∀ {l : List Mg} {c : List Value}, MgsR E G l c → c.length = l.length * 17
  | [], c, h => by rw [show c = [] from h]; rfl
  | v :: l, c, h => by
    obtain ⟨c1, c2, rfl, h1, h2⟩ := h
    rw [List.length_append, h1.len, h2.len, List.length_cons]; omega
theorem LasR.len {E : Env} {G : Mem} : ∀ {l : List La} {c : List Value}, LasR E G l c → c.length = l.length * 5
  | [], c, h => by rw [show c = [] from h]; rfl
  | v :: l, c, h => by
    obtain ⟨c1, c2, rfl, h1, h2⟩ := h
    rw [List.length_append, h1.len, h2.len, List.length_cons]; omega
theorem MgsR.at {E : Env} {G : Mem} : ∀ {l : List Mg} {c : List Value}, MgsR E G l c → ∀ (i : Nat) (v : Mg), l[i]? = some v → MgR E G v ((c.drop (i * 17)).take 17)
  | v :: l, c, h, 0, x, hx => by
    obtain ⟨c1, c2, rfl, h1, h2⟩ := h
    injection hx with hx
    subst hx
    simp [List.take_left' h1.len, h1]
  | v :: l, c, h, i + 1, x, hx => by
    obtain ⟨c1, c2, rfl, h1, h2⟩ := h
    rw [show (i + 1) * 17 = c1.length + i * 17 by rw [h1.len]; omega, ← List.drop_drop, List.drop_left]
    exact MgsR.at h2 i x (by simpa using hx)
theorem LasR.at {E : Env} {G : Mem} : ∀ {l : List La} {c : List Value}, LasR E G l c → ∀ (i : Nat) (v : La), l[i]? = some v → LaR E G v ((c.drop (i * 5)).take 5)
  | v :: l, c, h, 0, x, hx => by
    obtain ⟨c1, c2, rfl, h1, h2⟩ := h
    injection hx with hx
    subst hx
    simp [List.take_left' h1.len, h1]
  | v :: l, c, h, i + 1, x, hx => by
    obtain ⟨c1, c2, rfl, h1, h2⟩ := h
    rw [show (i + 1) * 5 = c1.length + i * 5 by rw [h1.len]; omega, ← List.drop_drop, List.drop_left]
    exact LasR.at h2 i x (by simpa using hx)
theorem MgsR.app {E : Env} {G : Mem} : ∀ {l l' : List Mg} {c c' : List Value}, MgsR E G l c → MgsR E G l' c' → MgsR E G (l ++ l') (c ++ c')
  | [], _, c, _, h, h' => by rw [show c = [] from h]; exact h'
  | v :: l, l', c, c', h, h' => by
    obtain ⟨c1, c2, rfl, h1, h2⟩ := h
    exact ⟨c1, c2 ++ c', by simp, h1, h2.app h'⟩
theorem LasR.app {E : Env} {G : Mem} : ∀ {l l' : List La} {c c' : List Value}, LasR E G l c → LasR E G l' c' → LasR E G (l ++ l') (c ++ c')
  | [], _, c, _, h, h' => by rw [show c = [] from h]; exact h'
  | v :: l, l', c, c', h, h' => by
    obtain ⟨c1, c2, rfl, h1, h2⟩ := h
    exact ⟨c1, c2 ++ c', by simp, h1, h2.app h'⟩
theorem MgsR.one {E : Env} {G : Mem} {v : Mg} {c : List Value} (h : MgR E G v c) : MgsR E G [v] c := ⟨c, [], by simp, h, rfl⟩
theorem LasR.one {E : Env} {G : Mem} {v : La} {c : List Value} (h : LaR E G v c) : LasR E G [v] c := ⟨c, [], by simp, h, rfl⟩
theorem LasR.drop {E : Env} {G : Mem} : ∀ {l : List La} {c : List Value}, LasR E G l c → ∀ i, LasR E G (l.drop i) (c.drop (i * 5))
  | [], c, h, i => by rw [show c = [] from h]; simp [LasR]
  | v :: l, c, h, 0 => by simpa using h
  | v :: l, c, h, i + 1 => by
    obtain ⟨c1, c2, rfl, h1, h2⟩ := h
    rw [show (i + 1) * 5 = c1.length + i * 5 by rw [h1.len]; omega, List.drop_length_add_append]
    exact h2.drop i
theorem LasR.take {E : Env} {G : Mem} : ∀ {l : List La} {c : List Value}, LasR E G l c → ∀ i, LasR E G (l.take i) (c.take (i * 5))
  | [], c, h, i => by rw [show c = [] from h]; simp [LasR]
  | v :: l, c, h, 0 => by simp [LasR]
  | v :: l, c, h, i + 1 => by
    obtain ⟨c1, c2, rfl, h1, h2⟩ := h
    rw [show (i + 1) * 5 = c1.length + i * 5 by rw [h1.len]; omega, List.take_length_add_append]
    exact ⟨c1, _, rfl, h1, h2.take i⟩
theorem MgsR.drop {E : Env} {G : Mem} : ∀ {l : List Mg} {c : List Value}, MgsR E G l c → ∀ i, MgsR E G (l.drop i) (c.drop (i * 17))
  | [], c, h, i => by rw [show c = [] from h]; simp [MgsR]
  | v :: l, c, h, 0 => by simpa using h
  | v :: l, c, h, i + 1 => by
    obtain ⟨c1, c2, rfl, h1, h2⟩ := h
    rw [show (i + 1) * 17 = c1.length + i * 17 by rw [h1.len]; omega, List.drop_length_add_append]
    exact h2.drop i
theorem MgR.sub {E : Env} {G G' : Mem} (s : Sub G G') {m : Mg} {c : List Value} (h : MgR E G m c) : MgR E G' m c := by
  obtain ⟨a, b, d, e, h1, h2, h3⟩ := h
  exact ⟨a, b, d, e, h1.sub s, h2.sub s, h3.sub s⟩
theorem MgsR.sub {E : Env} {G G' : Mem} (s : Sub G G') : ∀ {l : List Mg} {c : List Value}, MgsR E G l c → MgsR E G' l c
  | [], _, h => h
  | v :: l, c, h => by
    obtain ⟨c1, c2, rfl, h1, h2⟩ := h
    exact ⟨c1, c2, rfl, h1.sub s, h2.sub s⟩
theorem LaR.sub {E : Env} {G G' : Mem} (s : Sub G G') {m : La} {c : List Value} (h : LaR E G m c) : LaR E G' m c := by
  obtain ⟨a, e, h1⟩ := h
  exact ⟨a, e, h1.sub s⟩
theorem LasR.sub {E : Env} {G G' : Mem} (s : Sub G G') : ∀ {l : List La} {c : List Value}, LasR E G l c → LasR E G' l c
  | [], _, h => h
  | v :: l, c, h => by
    obtain ⟨c1, c2, rfl, h1, h2⟩ := h
    exact ⟨c1, c2, rfl, h1.sub s, h2.sub s⟩
theorem SvR.sub {E : Env} {G G' : Mem} (s : Sub G G') {m : Sv} {c : List Value} (h : SvR E G m c) : SvR E G' m c := by
  obtain ⟨a, b, d, e, h1, h2, h3⟩ := h
  exact ⟨a, b, d, e, h1.sub s, h2.sub s, h3.sub s⟩
theorem PRR.sub {E : Env} {G G' : Mem} (s : Sub G G') {m : PR} {c : List Value} (h : PRR E G m c) : PRR E G' m c := by
  obtain ⟨a, b, d, e, f, g, i, j, k, h1, h2, h3, h4, h5, h6, h7, h8⟩ := h
  exact ⟨a, b, d, e, f, g, i, j, k, h1.sub s, h2.sub s, h3.sub s, h4.sub s, h5.sub s, h6.sub s, h7.sub s, h8.sub s⟩
end Go.Tm
/- From what a row reads to lists that stay: at this program's types. -/
namespace Go.Proofs.YthdgobcpefcolaaGreatDoor
open Go.Tm Go
theorem co3 : Tryz.prog.cellsOf 3 = 1 := by kernel_rfl
theorem co5 : Tryz.prog.cellsOf 5 = 1 := by kernel_rfl
def noMem : Mem := fun _ => none
theorem noMem_frz (E : Env) (h : Heap) : Frz E noMem h := Frz.none E h
theorem weightsAll_of {H : Type} {P : Program} {e : TypeId} : ∀ {l : List (DataW H)} {d : DataW H} {n : Nat}, d ∈ l → n ∈ d.weights P e → n ∈ DataW.weightsAll P e l
  | [], d, n, h, _ => by simp at h
  | x :: l, d, n, h, hn => by
    unfold DataW.weightsAll
    rw [List.mem_append]
    rcases List.mem_cons.1 h with rfl | h
    · exact .inl hn
    · exact .inr (weightsAll_of h hn)
noncomputable def EW (W : World) (vs : List Value) : Env := { P := Tryz.prog, base := topN W vs, ro := fun b => W.heap[b]?, known := knownT, iter := iterT }
theorem EW_ok (W : World) (vs : List Value) : EOk (EW W vs) := ⟨rfl, rfl, rfl⟩
def plainC : Value → Bool
  | .slice _ _ _ => true
  | .int _ _ => true
  | .string _ => true
  | _ => false
theorem cl1_of {v : Value} {n : Nat} (h : plainC v = true) (hb : blkN v ≤ n) : cl1 n v = true := by
  cases v with
  | slice a l c =>
    cases a with
    | none => rfl
    | some a => simp only [cl1, decide_eq_true_eq]; simp only [blkN] at hb; omega
  | int k n => rfl
  | string s => rfl
  | _ => cases h
section
variable {H : Type} {enc : TypeId × Value → H} {W : World} {vs : List Value} {held : Bool}
theorem gcells_of {a : Addr} {m : Nat} {c : Array Value} {e : TypeId} {fr : Nat × Nat} (hw : W.heap[a.block]? = some (.cells c e fr)) (hsp : a.spot = none) (hm : a.off + m ≤ c.size) (hp : ((c.toList.drop a.off).take m).all plainC = true) :
    gcells (EW W vs) noMem a m = some (((c.toList.drop a.off).take m).map enc1) := by
  have hlt : a.block < W.heap.size := by
    rcases Nat.lt_or_ge a.block W.heap.size with h | h
    · exact h
    · rw [Array.getElem?_eq_none h] at hw; cases hw
  have hb : a.block < (EW W vs).base := Nat.lt_of_lt_of_le hlt (topN_size W vs)
  have hro : (EW W vs).ro a.block = some (.cells c e fr) := hw
  unfold gcells
  rw [if_pos hb]
  unfold acells
  simp only [hsp, if_pos hb, hro]
  refine if_pos ⟨hm, ?_⟩
  rw [List.all_eq_true] at hp ⊢
  intro v hv
  exact cl1_of (hp v hv) (topN_heap hw (List.mem_of_mem_drop (List.mem_of_mem_take hv)))
/-- What is asked of an element's reading. -/
def ElemOk (E : Env) (z : Nat) (R : List Value → Prop) (f : List Value → Option (DataW H × List MemPlace)) (t : TypeId) : Prop :=
  ∀ cs x, f cs = some x → (∀ n, n ∈ x.1.weights Tryz.prog t → n ≤ reachBytes) → (∀ v, v ∈ cs → blkN v ≤ E.base) → R (cs.map enc1) ∧ cs.all plainC = true
theorem slice_read {z : Nat} (hz : 0 < z) {e t : TypeId} (hco : Tryz.prog.cellsOf e = z) {R : List Value → Prop} {fuel : Nat} (hE : ElemOk (H := H) (EW W vs) z R (DataW.trod enc Tryz.prog W 0 (fun _ => true) held fuel e) e) (hu : Tryz.prog.underlying t = some (.slice e)) {v : Value} {d : DataW H} {ps : List MemPlace}
    (h : DataW.trod enc Tryz.prog W 0 (fun _ => true) held (fuel + 1) t [v] = some (d, ps)) (hw : ∀ n, n ∈ d.weights Tryz.prog t → n ≤ reachBytes) (hb : blkN v ≤ topN W vs) :
    ∃ n cl, (∀ i, i < n → R ((cl.drop (i * z)).take z)) ∧ cl.length = n * z ∧ Sl (EW W vs) noMem z n cl (enc1 v) ∧ n * Tryz.prog.bytesOf e ≤ reachBytes ∧ plainC v = true := by
  rcases trod_slice hu h with ⟨h1, rfl⟩ | ⟨a, len, cap, elems, rest, h1, hlc, hcm, hel, hrs, rfl⟩
  · injection h1 with h1; subst h1
    refine ⟨0, [], fun i hi => by omega, by simp, ⟨none, 0, rfl, by omega, by omega, ⟨fun _ => rfl, fun _ x => (by cases x)⟩, .inl ⟨rfl, rfl⟩⟩, by simp, rfl⟩
  · injection h1 with h1; subst h1
    obtain ⟨el1, el2⟩ := mapM_at _ _ _ hel
    rw [List.length_range] at el1
    rw [hco] at hel el2
    have hwt : (elems.length + rest.length) * Tryz.prog.bytesOf e ≤ reachBytes := by
      refine hw _ ?_
      unfold DataW.weights
      rw [hu]
      simp
    have hblk : a.block < topN W vs := by simp only [blkN] at hb; omega
    have hlen : len * Tryz.prog.bytesOf e ≤ reachBytes := Nat.le_trans (Nat.mul_le_mul_right _ (by omega)) hwt
    have hml : maxLen = 9223372036854775807 := rfl
    by_cases h0 : len = 0
    · subst h0
      refine ⟨0, [], fun i hi => by omega, by simp, ⟨some ⟨a.block, a.off, a.spot.map fun d => 2 * d + 1⟩, cap, rfl, by omega, by omega, ⟨fun x => (by cases x), fun b e => .inl (by injection e with e; subst e; exact hblk)⟩, .inl ⟨rfl, rfl⟩⟩, by simp, rfl⟩
    · have hone : ∀ i, i < len → ∃ c x, W.cells? 0 (a.add (i * z)) z = some c ∧ DataW.trod enc Tryz.prog W 0 (fun _ => true) held fuel e c = some x ∧ x.1 ∈ elems.map (·.1) := by
        intro i hi
        obtain ⟨y, hy, hf⟩ := el2 i i (by simp [hi])
        rw [Option.bind_eq_some_iff] at hf
        obtain ⟨c, hc1, hc2⟩ := hf
        exact ⟨c, y, hc1, hc2, List.mem_map.2 ⟨y, List.mem_of_getElem? hy, rfl⟩⟩
      obtain ⟨c0, x0, hr0, _, _⟩ := hone 0 (by omega)
      have ha0 : a.add (0 * z) = a := by simp [Addr.add]
      rw [ha0] at hr0
      obtain ⟨hsp, c, ee, fr, hw0, hsz0, _⟩ := cells_read hr0 hz
      have hel : ∀ i, i < len → a.off + i * z + z ≤ c.size ∧ R (((c.toList.drop (a.off + i * z)).take z).map enc1) ∧ ((c.toList.drop (a.off + i * z)).take z).all plainC = true := by
        intro i hi
        obtain ⟨ci, x, hr, ht, hm⟩ := hone i hi
        rw [add_of_none hsp] at hr
        obtain ⟨_, c', e', fr', hw', hsz', hci⟩ := cells_read hr hz
        simp only [addo] at hw' hsz' hci
        rw [hw0] at hw'
        injection hw' with hw'
        injection hw' with hw1 _ _
        subst hw1
        have := hE ci x ht (fun n hn => hw n (by
          unfold DataW.weights
          rw [hu]
          simp only [List.mem_cons, List.mem_append]
          exact .inr (.inl (weightsAll_of hm hn)))) (fun v hv => by
          rw [hci] at hv
          exact topN_heap hw0 (List.mem_of_mem_drop (List.mem_of_mem_take hv)))
        rw [hci] at this
        exact ⟨hsz', this⟩
      have hlast := (hel (len - 1) (by omega)).1
      have hlz : (len - 1) * z + z = len * z := by
        have : len = (len - 1) + 1 := by omega
        conv => rhs; rw [this, Nat.add_mul, Nat.one_mul]
      have hsz : a.off + len * z ≤ c.size := by omega
      have hpart : ∀ i, i < len → (((c.toList.drop a.off).take (len * z)).drop (i * z)).take z = (c.toList.drop (a.off + i * z)).take z := by
        intro i hi
        have : i * z + z ≤ len * z := by
          calc i * z + z = (i + 1) * z := by rw [Nat.add_mul]; omega
            _ ≤ len * z := Nat.mul_le_mul_right _ hi
        rw [List.drop_take, List.drop_drop, List.take_take, Nat.min_eq_left (by omega)]
      have hall : ((c.toList.drop a.off).take (len * z)).all plainC = true := by
        rw [List.all_eq_true]
        intro v hv
        obtain ⟨j, hj, rfl⟩ := List.mem_iff_getElem.1 hv
        have hj' : j < len * z := by rw [List.length_take] at hj; omega
        have hi : j / z < len := by rw [Nat.div_lt_iff_lt_mul hz]; exact hj'
        have h3 := (hel (j / z) hi).2.2
        rw [← hpart _ hi, List.all_eq_true] at h3
        refine h3 _ ?_
        rw [List.mem_iff_getElem?]
        refine ⟨j % z, ?_⟩
        rw [List.getElem?_take, if_pos (Nat.mod_lt _ hz), List.getElem?_drop]
        have : j / z * z + j % z = j := by rw [Nat.mul_comm]; exact Nat.div_add_mod j z
        rw [this, List.getElem?_eq_getElem hj]
      refine ⟨len, ((c.toList.drop a.off).take (len * z)).map enc1, fun i hi => ?_, by simp; omega, ⟨some ⟨a.block, a.off, a.spot.map fun d => 2 * d + 1⟩, cap, rfl, hlc, by omega, ⟨fun x => (by cases x), fun b e => .inl (by injection e with e; subst e; exact hblk)⟩, .inr ⟨_, rfl, ?_⟩⟩, hlen, rfl⟩
      · rw [← List.map_drop, ← List.map_take, hpart i hi]; exact (hel i hi).2.1
      · have : (⟨a.block, a.off, a.spot.map fun d => 2 * d + 1⟩ : Addr) = a := by cases a; simp only at hsp; subst hsp; rfl
        rw [this]
        exact gcells_of hw0 hsp hsz hall
theorem byte_read : ∀ fuel, ElemOk (H := H) (EW W vs) 1 (fun c => ∃ b : UInt8, c = [.int .u8 (b.toNat : Int)]) (DataW.trod enc Tryz.prog W 0 (fun _ => true) held fuel 5) 5 := by
  intro fuel cs x h hw hb
  obtain ⟨d, ps⟩ := x
  cases fuel with
  | zero => simp [DataW.trod] at h
  | succ f =>
  obtain ⟨n, rfl, h1, h2⟩ := trod_int Tryz.underlying5 h
  have h1' : 0 ≤ n := h1
  have h2' : n ≤ 255 := h2
  refine ⟨⟨UInt8.ofNat n.toNat, ?_⟩, rfl⟩
  have : (UInt8.ofNat n.toNat).toNat = n.toNat := by
    rw [UInt8.toNat_ofNat']; omega
  rw [this]
  simp only [List.map_cons, List.map_nil, enc1]
  congr 2; omega
theorem bytesC_of : ∀ (n : Nat) (cl : List Value), cl.length = n * 1 → (∀ i, i < n → ∃ b : UInt8, (cl.drop (i * 1)).take 1 = [.int .u8 (b.toNat : Int)]) → ∃ l : List UInt8, l.length = n ∧ cl = bytesC l
  | 0, cl, hl, _ => ⟨[], rfl, List.eq_nil_of_length_eq_zero (by omega)⟩
  | n + 1, cl, hl, h => by
    obtain ⟨b, hb⟩ := h 0 (by omega)
    cases cl with
    | nil => simp at hl
    | cons v cl =>
      obtain ⟨l, h1, h2⟩ := bytesC_of n cl (by simp at hl; omega) (fun i hi => by
        obtain ⟨b, hb⟩ := h (i + 1) (by omega)
        refine ⟨b, ?_⟩
        rw [show (i + 1) * 1 = i * 1 + 1 by omega, List.drop_succ_cons] at hb
        exact hb)
      simp at hb
      exact ⟨b :: l, by simp [h1], by rw [hb, h2]; rfl⟩
/-- A list of bytes, an argument. -/
theorem bytes_read {v : Value} {d : DataW H} {ps : List MemPlace} (h : DataW.Trod enc Tryz.prog W 0 (fun _ => true) held 53 v d ps) (hw : ∀ n, n ∈ d.weights Tryz.prog 53 → n ≤ reachBytes) (hv : v ∈ vs) (hc : v.cells.toList = [v]) :
    ∃ l : List UInt8, Sl (EW W vs) noMem 1 l.length (bytesC l) (enc1 v) ∧ plainC v = true := by
  obtain ⟨fuel, h⟩ := h
  rw [hc] at h
  cases fuel with
  | zero => simp [DataW.trod] at h
  | succ f =>
  obtain ⟨ln, lc, l1, l2, l3, l4, l5⟩ := slice_read (W := W) (vs := vs) (by omega) co5 (byte_read f) Tryz.underlying53 h hw (topN_arg hv)
  obtain ⟨L, hL1, hL2⟩ := bytesC_of ln lc l2 l1
  subst hL2
  exact ⟨L, by rw [hL1]; exact l3, l5⟩
end
end Go.Proofs.YthdgobcpefcolaaGreatDoor
/- What the wraps of the rows ask, at this program. -/
namespace Go.Proofs.YthdgobcpefcolaaGreatDoor
open Go.ChangeShapes Go.WideShapes Go.ChangeAt Go.RowKit Go.Tm Go Go.Proofs
theorem own : ownKnob Tryz.prog.godebug = none := by kernel_rfl
theorem mixed : Tryz.prog.follows .mixedOrders = true := Tryz.checked.mixed
theorem begun : (((begin Tryz.prog (fun _ _ => 0) default).world.heap[4]?).bind Obj.row?).isSome = true := by kernel_rfl
theorem nglobals : Tryz.prog.globals.size = 5 := by kernel_rfl
theorem size_le {W : World} (h : W.ShapedOpen Tryz.prog) : 5 ≤ W.heap.size := by
  obtain ⟨⟨zero, t⟩, hz⟩ := Option.isSome_iff_exists.1 begun
  obtain ⟨cs, hc, _⟩ := h.1 4 zero t (by rw [nglobals]; omega) hz
  rcases Nat.lt_or_ge 4 W.heap.size with h' | h'
  · exact h'
  · simp [Array.getElem?_eq_none h'] at hc
theorem prog_ok5 : progOk { P := Tryz.prog, base := 5, ro := fun _ => none } = true := by kernel_rfl
theorem prog_ok (W : World) (vs : List Value) (h2 : 5 ≤ W.heap.size) : progOk (EW W vs) = true :=
  progOk_mono (E := { P := Tryz.prog, base := 5, ro := fun _ => none }) rfl (Nat.le_trans h2 (topN_size W vs)) prog_ok5
theorem iter_none {E : Env} (hE : EOk E) : IterOk E := fun f lb h i o ho => by rw [hE.iter] at ho; cases ho
theorem wf_start (W : World) (vs : List Value) : WF (EW W vs) ⟨(EW W vs).base, .leaf⟩ := ⟨Nat.le_refl _, fun b o h => by simp [Heap.get, Tr.get_leaf] at h⟩
theorem slice_cells {W : World} {base : Nat} {t e : TypeId} {v : Value} (hu : Tryz.prog.underlying t = some (.slice e)) (h : Value.okWide Tryz.prog W .any base t v) : v.cells.toList = [v] := by
  unfold Value.okWide at h
  rw [hu] at h
  simp only [Cell.okWide, hu, Cell.ok] at h
  split at h <;> first | rfl | exact h.elim | (rename_i e1 e2; cases e1) | skip
  all_goals (simp_all [Value.cells])
theorem arg_int {H : Type} {enc : TypeId × Value → H} {W : World} {v : Value} {d : DataW H} {ps : List MemPlace} {base : Nat} {held : Bool} (h : DataW.Trod enc Tryz.prog W 0 (fun _ => true) held 3 v d ps) (hv : Value.okWide Tryz.prog W .any base 3 v) : ∃ x : Int, v = .int .i64 x := by
  obtain ⟨fuel, h⟩ := h
  have hc : v.cells.toList = [v] := by
    unfold Value.okWide at hv
    rw [Tryz.underlying3] at hv
    simp only [Cell.okWide, Tryz.underlying3, Cell.ok] at hv
    split at hv <;> first | rfl | exact hv.elim | (rename_i e1 e2; cases e1) | skip
    all_goals (simp_all [Value.cells])
  rw [hc] at h
  cases fuel with
  | zero => simp [DataW.trod] at h
  | succ f =>
  obtain ⟨n, q, a, b⟩ := trod_int Tryz.underlying3 h
  injection q with q
  exact ⟨n, q⟩
end Go.Proofs.YthdgobcpefcolaaGreatDoor
namespace Go.Proofs.YthdgobcpefcolaaGreatDoor
open Go.Tm Vr
theorem iv_add {a b : Nat} (h : a + b ≤ 9223372036854775807) : (Value.int .i64 (IntKind.i64.wrap ((a : Int) + (b : Int)))) = iv (a + b) := by
  rw [wr64 (by omega) (by omega)]; rfl
theorem iv_succ {a : Nat} (h : a + 1 ≤ 9223372036854775807) : (Value.int .i64 (IntKind.i64.wrap ((a : Int) + 1))) = iv (a + 1) := by
  rw [wr64 (by omega) (by omega)]; rfl
theorem iv_sub {a b : Nat} (h : a ≤ 9223372036854775807) (hb : b ≤ a) : (Value.int .i64 (IntKind.i64.wrap ((a : Int) - (b : Int)))) = iv (a - b) := by
  rw [wr64 (by omega) (by omega)]; congr 1; omega
variable {E : Env} (hE : EOk E)
include hE
section
variable {G : Mem} {h : Heap} (hW : WF E h) {P : PR} {cs : List Value} (hP : PRR E G P cs)
include hW hP
theorem opR_at (hb : P.bs ≤ 1099511627776) (hl : P.log.length ≤ 1099511627776) : CallsTo E 41 [.agg cs.toArray] h fun v h' => v = iv P.op ∧ KW E h h' := by
  obtain ⟨a1, c1, a2, c2, a3, c3, a4, c4, a5, c5, a6, c6, a7, c7, ct, cc, ca, rfl, hP⟩ := hP.e
  refine calls_of_runs (fn := Tryz.f41) (by rw [hE.P]; exact Tryz.func41) rfl (by rw [hE.known]; rfl) (by rw [Tryz.ntmps41]; exact Nat.le_of_ble_eq_true rfl) (by decide +kernel) (rs := [.tmp 2]) rfl (wpc_runs _ _ _ _ ?_)
  simp only [push_cast, seval, hE.P, awrite, wpc_label, wpc_block, hW.b0, hW.b1, hW.b2, hW.b3, hW.b4, hW.b5]
  exact ⟨iv_add (by omega), (by repeat (first | assumption | exact KW.refl hW | apply KW.push | refine KW.put ?_ (by first | omega | (simp <;> omega)) (by first | omega | (simp <;> omega)) hW))⟩
theorem fR_at (hn : 1 ≤ P.n ∧ P.n ≤ 1000) : CallsTo E 76 [.agg cs.toArray] h fun v h' => v = iv P.F ∧ KW E h h' := by
  obtain ⟨a1, c1, a2, c2, a3, c3, a4, c4, a5, c5, a6, c6, a7, c7, ct, cc, ca, rfl, hP⟩ := hP.e
  refine calls_of_runs (fn := Tryz.f76) (by rw [hE.P]; exact Tryz.func76) rfl (by rw [hE.known]; rfl) (by rw [Tryz.ntmps76]; exact Nat.le_of_ble_eq_true rfl) (by decide +kernel) (rs := [.tmp 2]) rfl (wpc_runs _ _ _ _ ?_)
  simp only [push_cast, seval, hE.P, awrite, wpc_label, wpc_block, hW.b0, hW.b1, hW.b2, hW.b3, hW.b4, hW.b5]
  refine ⟨?_, (by repeat (first | assumption | exact KW.refl hW | apply KW.push | refine KW.put ?_ (by first | omega | (simp <;> omega)) (by first | omega | (simp <;> omega)) hW))⟩
  rw [wr64 (x := (P.n : Int) - 1) (by omega) (by omega), Int.tdiv_eq_ediv_of_nonneg (by omega), wr64 (by omega) (by omega)]
  congr 1
  unfold PR.F
  omega
theorem primR_at (hn : 1 ≤ P.n ∧ P.n ≤ 1000) (hv : P.vw ≤ 1099511627776) : CallsTo E 39 [.agg cs.toArray] h fun v h' => v = .bool P.prim ∧ KW E h h' := by
  obtain ⟨a1, c1, a2, c2, a3, c3, a4, c4, a5, c5, a6, c6, a7, c7, ct, cc, ca, rfl, hP⟩ := hP.e
  refine calls_of_runs (fn := Tryz.f39) (by rw [hE.P]; exact Tryz.func39) rfl (by rw [hE.known]; rfl) (by rw [Tryz.ntmps39]; exact Nat.le_of_ble_eq_true rfl) (by decide +kernel) (rs := [.tmp 2]) rfl (wpc_runs _ _ _ _ ?_)
  simp only [push_cast, seval, hE.P, awrite, wpc_label, wpc_block, hW.b0, hW.b1, hW.b2, hW.b3, hW.b4, hW.b5]
  refine wdraw_calm (by rw [hE.P]; decide +kernel) ?_
  have hz : ((P.n : Int) = 0) = False := by simp; omega
  simp only [push_cast, seval, hE.P, awrite, wpc_label, wpc_block, hW.b0, hW.b1, hW.b2, hW.b3, hW.b4, hW.b5, hz]
  refine ⟨?_, (by repeat (first | assumption | exact KW.refl hW | apply KW.push | refine KW.put ?_ (by first | omega | (simp <;> omega)) (by first | omega | (simp <;> omega)) hW))⟩
  rw [← Int.ofNat_tmod]
  unfold PR.prim
  congr 1
  simp only [Bool.beq_eq_decide_eq, Int.natCast_inj]
theorem toR_at {m : Mg} {ms : List Value} (hm : MgR E G m ms) (i : Nat) : CallsTo E 47 [.agg cs.toArray, .agg ms.toArray, iv i] h fun v h' => ∃ r, v = .agg r.toArray ∧ MgR E G (P.toM m i) r ∧ KW E h h' := by
  obtain ⟨a1, c1, a2, c2, a3, c3, a4, c4, a5, c5, a6, c6, a7, c7, ct, cc, ca, rfl, hP⟩ := hP.e
  obtain ⟨b1, d1, b2, d2, b3, d3, rfl, m1, m2, m3⟩ := hm.e
  refine calls_of_runs (fn := Tryz.f47) (by rw [hE.P]; exact Tryz.func47) rfl (by rw [hE.known]; rfl) (by rw [Tryz.ntmps47]; exact Nat.le_of_ble_eq_true rfl) (by decide +kernel) (rs := [.cell 6 62]) rfl (wpc_runs _ _ _ _ ?_)
  simp only [push_cast, seval, hE.P, awrite, wpc_label, wpc_block, hW.b0, hW.b1, hW.b2, hW.b3, hW.b4, hW.b5]
  exact ⟨_, rfl, ⟨_, _, _, rfl, m1, m2, m3⟩, (by repeat (first | assumption | exact KW.refl hW | apply KW.push | refine KW.put ?_ (by first | omega | (simp <;> omega)) (by first | omega | (simp <;> omega)) hW))⟩
theorem logOfR_at (hG : Frz E G h) {k : Nat} (hk : P.bs ≤ k ∧ k ≤ P.op) (hl : P.op ≤ 1099511627776) : CallsTo E 49 [.agg cs.toArray, iv k] h fun v h' => Own h' 56 3 h.next (P.op - k) (entsC (logOf P k)) v ∧ KW E h h' := by
  obtain ⟨a1, c1, a2, c2, a3, c3, a4, c4, a5, c5, a6, c6, a7, c7, ct, cc, ca, rfl, h1, hP⟩ := hP.e
  unfold PR.op at hk hl
  obtain ⟨ya, yc, hy, hys⟩ := h1.from (P := Tryz.prog) (t := 36) Tryz.underlying36 sz56 (entsC_len _) (k := k - P.bs) (by omega)
  rw [entsC_drop] at hys
  refine calls_of_runs (fn := Tryz.f49) (by rw [hE.P]; exact Tryz.func49) rfl (by rw [hE.known]; rfl) (by rw [Tryz.ntmps49]; exact Nat.le_of_ble_eq_true rfl) (by decide +kernel) (rs := [.tmp 4]) rfl (wpc_runs _ _ _ _ ?_)
  have hw : (Value.int .i64 (IntKind.i64.wrap ((k : Int) - (P.bs : Int)))) = .int .i64 ((k - P.bs : Nat) : Int) := iv_sub (by omega) (by omega)
  simp only [push_cast, seval, hE.P, awrite, wpc_label, wpc_block, hW.b0, hW.b1, hW.b2, hW.b3, hW.b4, hW.b5]
  rw [hw, hy]
  simp only [push_cast, seval, hE.P, awrite, wpc_label, wpc_block]
  refine kwv_GS (el36 hE.P) (hW.push _) (G := G) (hG.keep ((Keep.refl h).push hW)) (lo := h.next) (by simp) (Own.nil _ _ _ _) hys (by rw [entsC_len]; simp) ?_ (by omega) (by omega) ?_
  · exact entsC_one _
  · intro v' h' a
    simp only [push_cast, seval, hE.P, awrite, wpc_label, wpc_block]
    have e : P.log.length - (k - P.bs) = P.op - k := by unfold PR.op; omega
    have ho := a.own
    rw [Nat.zero_add, e, List.nil_append] at ho
    exact ⟨ho, ((KW.refl hW).push.app hW (Own.nil _ _ _ _) a)⟩
theorem allR_at (hG : Frz E G h) (hn : P.n ≤ 1000) {m : Mg} {ms : List Value} (hm : MgR E G m ms) : CallsTo E 38 [.agg cs.toArray, .agg ms.toArray] h fun v h' => ∃ co, Own h' 62 17 h.next (P.allM m).length co v ∧ MgsR E G (P.allM m) co ∧ KW E h h' := by
  have hP0 := hP
  obtain ⟨a1, c1, a2, c2, a3, c3, a4, c4, a5, c5, a6, c6, a7, c7, ct, cc, ca, rfl, hP⟩ := hP.e
  obtain ⟨b1, d1, b2, d2, b3, d3, rfl, m1, m2, m3⟩ := hm.e
  have hP' := hP0
  have hm' := hm
  refine calls_of_runs (fn := Tryz.f38) (by rw [hE.P]; exact Tryz.func38) rfl (by rw [hE.known]; rfl) (by rw [Tryz.ntmps38]; exact Nat.le_of_ble_eq_true rfl) (by decide +kernel) (rs := [.tmp 4]) rfl (wpc_runs _ _ _ _ ?_)
  simp only [push_cast, seval, hE.P, awrite, wpc_label, wpc_block, hW.b0, hW.b1, hW.b2, hW.b3, hW.b4, hW.b5]
  refine wpc_loop (fun k tm h2 => ∃ i v co, k = P.n - i ∧ i ≤ P.n ∧ fget tm 2 = .pointer (some ⟨h.next, 0, none⟩) ∧ fget tm 3 = .pointer (some ⟨h.next + 1, 0, none⟩) ∧ fget tm 6 = iv i ∧ fget tm 5 = v ∧
    h2.get h.next = some (.cells [iv P.me, iv P.n, iv P.vw, iv P.st, iv P.nm, iv P.bs, iv P.cm, iv P.nc, .slice a1 P.log.length c1, .bool false, .slice a2 P.sv.l.length c2, .slice none 0 0, .slice a3 P.sv.tab.length c3, .slice a4 P.told.length c4, .slice a5 P.voted.length c5, .bool P.sent, .slice a6 P.came.length c6, .slice a7 P.ans.length c7] 48 true) ∧
    h2.get (h.next + 1) = some (.cells [iv m.k, iv m.fr, iv m.to, iv m.vw, iv m.op, iv m.cm, iv m.bs, iv m.nm, iv m.nc, .slice b1 m.log.length d1, .slice b2 m.img.length d2, iv m.en.c, iv m.en.n, .string m.en.t, iv m.rp.e, iv m.rp.n, .slice b3 0 d3] 62 true) ∧
    Own h2 62 17 (h.next + 2) (allF P m i).length co v ∧ MgsR E G (allF P m i) co ∧ KW E h h2 ∧ h.next + 2 ≤ h2.next) P.n ?_ ?_
  · simp only [push_cast, seval, hE.P, awrite, wpc_label, wpc_block]
    exact ⟨0, _, [], by omega, by omega, rfl, rfl, Own.nil _ _ _ _, rfl, (KW.refl hW).push.push⟩
  · rintro k tm h2 ⟨i, v, co, rfl, hi, f2, f3, f6, f5, g1, g2, ho, hmo, kw, hx⟩
    have nb1 := kw.w.nlt g1
    have nb2 := kw.w.nlt g2
    simp only [push_cast, seval, hE.P, awrite, wpc_label, wpc_block, f2, f3, f6, f5, g1, g2, nb1, nb2]
    refine kif_split (fun hb => ?_) (fun hb => ?_)
    · have hlt : i < P.n := by simpa using hb
      simp only [push_cast, seval, hE.P, awrite, wpc_label, wpc_block, f2, f3, f6, f5, g1, g2, nb1, nb2]
      refine kif_split (fun hb => ?_) (fun hb => ?_)
      · simp only [push_cast, seval, hE.P, awrite, wpc_label, wpc_block, f2, f3, f6, f5, g1, g2, nb1, nb2]
        refine (toR_at hE kw.w hP0 hm i).mono ?_
        rintro r h3 ⟨mc, rfl, hmc, kw3⟩
        have hme := hmc
        obtain ⟨e1, e2, e3, e4, e5, e6, rfl, _⟩ := hmc.e
        simp only [push_cast, seval, hE.P, awrite, wpc_label, wpc_block, f2, f3, f6, f5, g1, g2, nb1, nb2]
        rw [bs26 rfl, kalloc_some]
        simp only [push_cast, seval, hE.P, awrite, wpc_label, wpc_block, f2, f3, f6, f5, g1, g2, nb1, nb2]
        have ho3 := ho.keep kw3.k
        have hx3 := kw3.k.next
        have hlen := allF_len P m i
        refine kwv_G1 (el26 hE.P) kw3.w (lo := h.next + 2) (by omega) ho3 rfl rfl (by omega) (by omega) ?_
        intro v' h4 a _
        simp only [push_cast, seval, hE.P, awrite, wpc_label, wpc_block, f2, f3, f6, f5, g1, g2, nb1, nb2]
        have hs := fun b hb => (ho3.lt kw3.w b hb).1
        have g1' := a.get _ _ (kw3.k.get _ _ g1) (fun hb => by have := hs _ hb; omega)
        have g2' := a.get _ _ (kw3.k.get _ _ g2) (fun hb => by have := hs _ hb; omega)
        have hne : ¬ i = P.me := fun e => by subst e; simp at hb
        have eF := allF_succ P m i
        rw [if_neg hne] at eF
        refine ⟨P.n - (i + 1), by omega, i + 1, v', co ++ [iv (P.toM m i).k, iv (P.toM m i).fr, iv (P.toM m i).to, iv (P.toM m i).vw, iv (P.toM m i).op, iv (P.toM m i).cm, iv (P.toM m i).bs, iv (P.toM m i).nm, iv (P.toM m i).nc, .slice e1 (P.toM m i).log.length e2, .slice e3 (P.toM m i).img.length e4, iv (P.toM m i).en.c, iv (P.toM m i).en.n, .string (P.toM m i).en.t, iv (P.toM m i).rp.e, iv (P.toM m i).rp.n, .slice e5 0 e6], rfl, by omega, iv_succ (by omega), rfl, g1', g2', ?_, ?_, (kw.trans kw3).app hW ho3 a, by have := a.next; omega⟩
        · rw [eF, List.length_append]; exact a.own
        · rw [eF]; exact hmo.app (MgsR.one hme)
      · simp only [push_cast, seval, hE.P, awrite, wpc_label, wpc_block, f2, f3, f6, f5, g1, g2, nb1, nb2]
        have he0 : (i : Int) = P.me := by simpa using hb
        have he : i = P.me := by omega
        have eF := allF_succ P m i
        rw [if_pos he, List.append_nil] at eF
        exact ⟨P.n - (i + 1), by omega, i + 1, v, co, rfl, by omega, iv_succ (by omega), rfl, by rw [eF]; exact ho, by rw [eF]; exact hmo, kw, hx⟩
    · simp only [push_cast, seval, hE.P, awrite, wpc_label, wpc_block, f2, f3, f6, f5, g1, g2, nb1, nb2]
      have he : i = P.n := by have : ¬ i < P.n := by simpa using hb
                              omega
      subst he
      exact ⟨co, ho.low (by omega), hmo, kw⟩
end
end Go.Proofs.YthdgobcpefcolaaGreatDoor
