/- Chapter 25, plain: what waits, message by message. -/
/- Merged by a program of ours: UQ U27 U28 U28b VC0 VN. -/
import Derived.Test.YthdgobcpefcolaaGreatDoorG17
import Derived.Test.YthdgobcpefcolaaGreatDoorG28
import Derived.Test.YthdgobcpefcolaaGreatDoorG16
set_option maxRecDepth 10000
set_option linter.all false
set_option linter.unusedSimpArgs false
set_option linter.unusedVariables false
/- The logic: a list that is a queue: elements are taken at its front, appended at its end. -/
namespace Go.Tm
def OwnQ (h : Heap) (e z n : Nat) (cs : List Value) (v : Value) : Prop :=
  (v = .slice none 0 0 ∧ n = 0 ∧ cs = []) ∨
  (∃ b off cap pre rest fx, v = .slice (some ⟨b, off * z, none⟩) n cap ∧ h.get b = some (.cells (pre ++ (cs ++ rest)) e fx) ∧ pre.length = off * z ∧ cs.length = n * z ∧ rest.length = (cap - n) * z ∧ n ≤ cap ∧ cap ≤ 9223372036854775807) ∨
  (∃ b off k pre fx, v = .slice (some ⟨b, off, some (2 * k)⟩) 0 0 ∧ n = 0 ∧ cs = [] ∧ h.get b = some (.cells pre e fx) ∧ pre.length = off + k)
theorem OwnQ.nil (h : Heap) (e z : Nat) : OwnQ h e z 0 [] (.slice none 0 0) := .inl ⟨rfl, rfl, rfl⟩
theorem OwnQ.at {h h' : Heap} {e z n : Nat} {cs : List Value} {v : Value} (H : OwnQ h e z n cs v) (k : ∀ b o, b ∈ slB v → h.get b = some o → h'.get b = some o) : OwnQ h' e z n cs v := by
  rcases H with H | ⟨b, off, cap, pre, rest, fx, rfl, hg, H⟩ | ⟨b, off, kk, pre, fx, rfl, h1, h2, hg, H⟩
  · exact .inl H
  · exact .inr (.inl ⟨b, off, cap, pre, rest, fx, rfl, k _ _ (by simp [slB]) hg, H⟩)
  · exact .inr (.inr ⟨b, off, kk, pre, fx, rfl, h1, h2, k _ _ (by simp [slB]) hg, H⟩)
theorem OwnQ.isSl {h : Heap} {e z n : Nat} {cs : List Value} {v : Value} (H : OwnQ h e z n cs v) : ∃ a c, v = .slice a n c ∧ n ≤ c := by
  rcases H with ⟨rfl, rfl, _⟩ | ⟨b, off, cap, pre, rest, fx, rfl, _, _, _, _, h, _⟩ | ⟨b, off, kk, pre, fx, rfl, rfl, _⟩
  · exact ⟨_, _, rfl, by omega⟩
  · exact ⟨_, _, rfl, h⟩
  · exact ⟨_, _, rfl, by omega⟩
/-- The first one. -/
theorem OwnQ.head {E : Env} {h : Heap} (hW : WF E h) {e z n : Nat} {x cs : List Value} {v : Value} (H : OwnQ h e z (n + 1) (x ++ cs) v) (hx : x.length = z) : ∃ a c, v = .slice (some a) (n + 1) c ∧ a.spot = none ∧ acells E h a z = some x := by
  rcases H with ⟨_, h0, _⟩ | ⟨b, off, cap, pre, rest, fx, rfl, hg, h1, h2, h3, h4, h5⟩ | ⟨b, off, kk, pre, fx, _, h0, _⟩
  · omega
  · refine ⟨_, _, rfl, rfl, ?_⟩
    unfold acells
    rw [if_neg (by have := hW.nlt hg; simpa using this)]
    simp only [hg]
    rw [if_pos (by simp; omega), ← h1, List.drop_left, List.append_assoc, ← hx, List.take_left]
  · omega
/-- Without the first one. -/
theorem OwnQ.pop {P : Program} {t : TypeId} {h : Heap} {e z n : Nat} (hu : P.underlying t = some (.slice e)) (hz : asz P e = some z) {x cs : List Value} {v : Value} (H : OwnQ h e z (n + 1) (x ++ cs) v) (hx : x.length = z) : ∃ v', asl P t v (some (.int .i64 1)) none = some v' ∧ OwnQ h e z n cs v' ∧ slB v' = slB v := by
  rcases H with ⟨_, h0, _⟩ | ⟨b, off, cap, pre, rest, fx, rfl, hg, h1, h2, h3, h4, h5⟩ | ⟨b, off, kk, pre, fx, _, h0, _⟩
  · omega
  · have e1 : abnd none (n + 1) cap = some (n + 1) := rfl
    have e2 : abnd (some (.int .i64 1)) 0 (n + 1) = some 1 := by
      unfold abnd; simp only; rw [if_pos (by omega)]; rfl
    unfold asl
    simp only [hu, e1, e2, hz]
    have hcs : cs.length = n * z := by
      have := h2; simp only [List.length_append, hx, Nat.add_mul, Nat.one_mul] at this; omega
    by_cases hc : 1 < cap
    · rw [if_pos hc]
      refine ⟨_, rfl, .inr (.inl ⟨b, off + 1, cap - 1, pre ++ x, rest, fx, ?_, ?_, ?_, hcs, ?_, by omega, by omega⟩), rfl⟩
      · simp [addo, Nat.add_mul]
      · rw [hg]; simp
      · simp [h1, hx, Nat.add_mul]
      · rw [h3]; congr 1; omega
    · have hc1 : cap = 1 := by omega
      have hn : n = 0 := by omega
      subst hc1; subst hn
      rw [if_neg hc, if_pos (by omega)]
      have hc0 : cs = [] := List.eq_nil_of_length_eq_zero (by omega)
      have hr0 : rest = [] := List.eq_nil_of_length_eq_zero (by simpa using h3)
      subst hc0; subst hr0
      refine ⟨_, rfl, .inr (.inr ⟨b, off * z, 1 * z, pre ++ x, fx, rfl, rfl, rfl, ?_, ?_⟩), rfl⟩
      · rw [hg]; simp
      · simp [h1, hx]
  · omega
structure ApdQ (E : Env) (h h' : Heap) (e z n : Nat) (cs : List Value) (v v' : Value) : Prop where
  own : OwnQ h' e z n cs v'
  get : ∀ b o, h.get b = some o → b ∉ slB v → h'.get b = some o
  blk : ∀ b, b ∈ slB v' → b ∈ slB v ∨ h.next ≤ b
  lt : ∀ b, b ∈ slB v' → b < h'.next
  next : h.next ≤ h'.next
  wf : WF E h'
theorem kwv_Q {E : Env} {h : Heap} {t e z by_ n m : Nat} {cs xs : List Value} {v x : Value} {d : Option Nat} {R : Cont} {tm : Tr Value} (T : Elem E t e z by_) (hW : WF E h) (H : OwnQ h e z n cs v)
    (hm : alenOf x = some m) (h0 : 0 < m) (hx : asrc E h z x m = some xs) (hl : xs.length = m * z) (ho : xs.all Value.oneCell' = true) (hb : (n + m) * by_ ≤ 140737488355328) (hn : n + m ≤ 9223372036854775807)
    (K : ∀ v' h', ApdQ E h h' e z (n + m) (cs ++ xs) v v' → R (aput tm d v') h') : kwv (aappend E h t t v x) d R tm h := by
  obtain ⟨i, hi, hiz⟩ : ∃ i, E.P.info? e = some i ∧ (i.size, i.bytes) = (z, by_) := by
    have := T.info
    rw [Option.map_eq_some_iff] at this
    exact this
  injection hiz with hz1 hz2
  subst hz1; subst hz2
  obtain ⟨zv, hzv, hzl⟩ := T.zero
  have hpos := T.pos
  have main : ∀ base sCap, v = .slice base n sCap → aappend E h t t v x = aappendE E h e i base n sCap m x := by
    intro base sCap hv
    subst hv
    simp only [aappend, T.und, hm, isIntD, Bool.false_eq_true, if_false, hi]
  have none' : ∀ base sCap, n + m > sCap → aappendE E h e i base n sCap m x = agrow E h e i base n sCap m xs := by
    intro base sCap hc
    unfold aappendE
    rw [if_neg (by omega)]
    simp only [hx]
    rw [if_neg (by omega)]
  have fin : ∀ (h2 : Heap), h2.next = h.next → WF E h2 → cs.length = n * i.size → (∀ b o, h.get b = some o → b ∉ slB v → h2.get b = some o) → ApdQ E h (h2.push (.cells (cs ++ xs) e false)) e i.size (n + m) (cs ++ xs) v (.slice (some (anew h)) (n + m) (n + m)) := by
    intro h2 hnx hw2 hcl hk
    refine ⟨.inr (.inl ⟨h.next, 0, n + m, [], [], false, by simp [anew], ?_, by simp, ?_, by simp, by omega, hn⟩), ?_, ?_, ?_, by simp; omega, hw2.push _⟩
    · rw [get_push, hnx, if_pos rfl]; simp
    · simp only [List.length_append, hl, hcl]; rw [Nat.add_mul]
    · intro b o hg hb
      rw [get_push, if_neg (by have := (hW.live b o hg).2; omega)]
      exact hk b o hg hb
    · intro b hb; simp [slB, anew] at hb; right; omega
    · intro b hb; simp [slB, anew] at hb; simp; omega
  rcases H with ⟨rfl, rfl, rfl⟩ | ⟨b, off, cap, pre, rest, fx, rfl, hg, h1, h2, h3, h4, h5⟩ | ⟨b, off, kk, pre, fx, rfl, rfl, rfl, hg, hp⟩
  · have hgr : agrow E h e i none 0 0 m xs = some (.slice (some (anew h)) m m, h.push (.cells xs e false)) := by
      unfold agrow
      rw [if_pos ⟨by omega, hl, hpos, by omega, ho⟩]
      simp only [hzv]
      rw [if_pos hzl]
      simp [anew]
    have hf := fin h rfl hW (by simp) (fun _ _ x _ => x)
    simp only [List.nil_append, Nat.zero_add] at hf K
    exact ⟨_, by rw [main none 0 rfl, none' none 0 (by omega), hgr], K _ _ hf⟩
  · by_cases hroom : n + m ≤ cap
    · have hmc : m * i.size ≤ (cap - n) * i.size := Nat.mul_le_mul_right _ (by omega)
      have hlen : pre.length + cs.length + xs.length ≤ (pre ++ (cs ++ rest)).length := by
        simp only [List.length_append]; omega
      have hsp : splice (pre ++ (cs ++ rest)) (pre.length + cs.length) xs = pre ++ ((cs ++ xs) ++ rest.drop xs.length) := by
        have := splice_end (cs := pre ++ cs) (rest := rest) (xs := xs) (by omega)
        simp only [List.length_append, List.append_assoc] at this ⊢
        exact this
      refine ⟨(.slice (some ⟨b, off * i.size, none⟩) (n + m) cap, h.put b (.cells (pre ++ ((cs ++ xs) ++ rest.drop xs.length)) e fx)), ?_, K _ _ ⟨.inr (.inl ⟨b, off, cap, pre, rest.drop xs.length, fx, rfl, ?_, h1, ?_, ?_, hroom, h5⟩), ?_, ?_, ?_, by simp, hW.put hg⟩⟩
      · rw [main _ cap rfl]
        unfold aappendE
        rw [if_neg (by omega)]
        simp only [hx]
        rw [if_pos hroom]
        simp only [addo, awrite, hg]
        rw [← h1, ← h2]
        refine (congrArg _ (if_pos ⟨hlen, ho⟩)).trans ?_
        simp only [Option.map_some]
        rw [hsp]
      · rw [get_put, if_pos rfl]
      · simp only [List.length_append, h2, hl]; rw [Nat.add_mul]
      · rw [List.length_drop, h3, hl, ← Nat.sub_mul]; congr 1; omega
      · intro j o hgj hne
        rw [get_put, if_neg (by simp [slB] at hne; omega)]; exact hgj
      · intro j hj; left; simpa [slB] using hj
      · intro j hj; simp [slB] at hj; subst hj; simp; exact (hW.live _ _ hg).2
    · have hd : (List.drop (off * i.size) (pre ++ (cs ++ rest))).take (n * i.size) = cs := by
        rw [← h1, List.drop_left, ← h2, List.take_left]
      have hgr : agrow E h e i (some ⟨b, off * i.size, none⟩) n cap m xs = (if fx then some (.slice (some (anew h)) (n + m) (n + m), h.push (.cells (cs ++ xs) e false)) else some (.slice (some (anew h)) (n + m) (n + m), (h.kill b).push (.cells (cs ++ xs) e false))) := by
        unfold agrow
        rw [if_pos ⟨hb, hl, hpos, by omega, ho⟩]
        simp only [hzv]
        rw [if_pos hzl]
        simp only [hg, hd]
        rw [if_pos ⟨trivial, by simp only [aend, List.length_append, h1, h2, h3]; rw [← Nat.add_mul, ← Nat.add_mul, ← Nat.add_mul]; congr 1; omega, by simp, by omega⟩]
      cases fx with
      | true => exact ⟨_, by rw [main _ cap rfl, none' _ cap (by omega), hgr]; rfl, K _ _ (fin h rfl hW h2 (fun _ _ x _ => x))⟩
      | false => exact ⟨_, by rw [main _ cap rfl, none' _ cap (by omega), hgr]; rfl, K _ _ (fin (h.kill b) (by simp) (hW.kill (b := b)) h2 (fun j o x hne => by rw [get_kill, if_neg (by simp [slB] at hne; omega)]; exact x))⟩
  · have hgr : agrow E h e i (some ⟨b, off, some (2 * kk)⟩) 0 0 m xs = (if fx then some (.slice (some (anew h)) (0 + m) (0 + m), h.push (.cells ([] ++ xs) e false)) else some (.slice (some (anew h)) (0 + m) (0 + m), (h.kill b).push (.cells ([] ++ xs) e false))) := by
      unfold agrow
      rw [if_pos ⟨hb, hl, hpos, by omega, ho⟩]
      simp only [hzv]
      rw [if_pos hzl]
      simp only [hg]
      rw [if_pos ⟨trivial, by simp only [aend, hp]; omega, by simp [evenS], by omega⟩]
      simp
    cases fx with
    | true => exact ⟨_, by rw [main _ 0 rfl, none' _ 0 (by omega), hgr]; rfl, K _ _ (fin h rfl hW (by simp) (fun _ _ x _ => x))⟩
    | false => exact ⟨_, by rw [main _ 0 rfl, none' _ 0 (by omega), hgr]; rfl, K _ _ (fin (h.kill b) (by simp) (hW.kill (b := b)) (by simp) (fun j o x hne => by rw [get_kill, if_neg (by simp [slB] at hne; omega)]; exact x))⟩
end Go.Tm
/- Chapter 25: replicas in memory, apart from one another; a group. -/
namespace Go.Tm
open Vr
structure Rr where
  P : PR
  r : Nat
  t : Nat
  cs : List Value
  X : Nat → Prop
def Rr.c (a : Rr) : List Value := ptr a.r :: ptr a.t :: a.cs
structure RS (E : Env) (G : Mem) (h : Heap) (L : List Rr) : Prop where
  wf : WF E h
  frz : Frz E G h
  so : ∀ a, a ∈ L → SO E G h a.X
  qr : ∀ a, a ∈ L → QR E G h a.X a.P [] a.r a.t
  pr : ∀ a, a ∈ L → PRR E G a.P a.cs
  dj : ∀ (i j : Nat) a b, L[i]? = some a → L[j]? = some b → i ≠ j → ∀ x, a.X x → ¬ b.X x
theorem PRR.len18 {E : Env} {G : Mem} {P : PR} {cs : List Value} (h : PRR E G P cs) : cs.length = 18 := by
  obtain ⟨a1, c1, a2, c2, a3, c3, a4, c4, a5, c5, a6, c6, a7, c7, ct, cc, ca, rfl, _⟩ := h.e
  rfl
theorem RS.len {E : Env} {G : Mem} {h : Heap} {L : List Rr} (s : RS E G h L) : ∀ a, a ∈ L → a.c.length = 20 := fun a ha => by
  simp [Rr.c, (s.pr a ha).len18]
/-- Something else happens. -/
theorem QR.keepX {E : Env} {G G' : Mem} {h h' : Heap} {X : Nat → Prop} {P : PR} {out : List Mg} {r t : Nat} (q : QR E G h X P out r t) (sub : Sub G G') (k : ∀ b o, X b → h.get b = some o → h'.get b = some o) : QR E G' h' X P out r t := by
  obtain ⟨D, q⟩ := q; exact ⟨D, q.keepX sub k⟩
theorem SO.beside {E : Env} {G G' : Mem} {h h' : Heap} {X Y Y' : Nat → Prop} (s : SO E G h X) (p : PX E G h Y G' h' Y') (hd : ∀ x, X x → ¬ Y x) : SO E G' h' X := ⟨p.so.wf, p.so.frz, fun b c hb hx => by
  rcases p.new b c hb with h3 | h3
  · exact s.dis b c h3 hx
  · have := s.lt b hx; omega, fun b hx => Nat.lt_of_lt_of_le (s.lt b hx) p.kx.next⟩
theorem RS.other {E : Env} {G G' : Mem} {h h' : Heap} {L : List Rr} {Y Y' : Nat → Prop} (s : RS E G h L) (p : PX E G h Y G' h' Y') (hd : ∀ a, a ∈ L → ∀ x, a.X x → ¬ Y x) : RS E G' h' L :=
  ⟨p.so.wf, p.so.frz, fun a ha => (s.so a ha).beside p (hd a ha), fun a ha => (s.qr a ha).keepX p.sub fun b o hx hg => p.kx.get b o (hd a ha b hx) hg, fun a ha => (s.pr a ha).sub p.sub, s.dj⟩
theorem RS.ext {E : Env} {G G' : Mem} {h h' : Heap} {L : List Rr} (s : RS E G h L) (x : Ext E G h G' h') : RS E G' h' L :=
  ⟨x.wf, x.frz, fun a ha => (s.so a ha).ext x, fun a ha => (s.qr a ha).ext x, fun a ha => (s.pr a ha).sub x.sub, s.dj⟩
theorem set_get {α : Type} {L : List α} {i j : Nat} {a b c : α} (h : L[i]? = some a) (hc : (L.set i b)[j]? = some c) : (j = i ∧ c = b) ∨ (j ≠ i ∧ L[j]? = some c) := by
  rw [List.getElem?_set] at hc
  by_cases hij : i = j
  · subst hij
    rw [if_pos rfl] at hc
    split at hc
    · injection hc with hc; exact .inl ⟨rfl, hc.symm⟩
    · cases hc
  · rw [if_neg hij] at hc
    exact .inr ⟨fun e => hij e.symm, hc⟩
/-- One of them moves. -/
theorem RS.set {E : Env} {G G' : Mem} {h h' : Heap} {L : List Rr} {i : Nat} {a b : Rr} (s : RS E G h L) (hi : L[i]? = some a) (p : PX E G h a.X G' h' b.X) (q : QR E G' h' b.X b.P [] b.r b.t) (hp : PRR E G' b.P b.cs) : RS E G' h' (L.set i b) := by
  have hold : ∀ c, c ∈ L.set i b → c = b ∨ ∃ j, j ≠ i ∧ L[j]? = some c := by
    intro c hc
    obtain ⟨j, hj⟩ := List.mem_iff_getElem?.1 hc
    rcases set_get hi hj with ⟨_, h2⟩ | h2
    · exact .inl h2
    · exact .inr ⟨j, h2⟩
  have hdj : ∀ j c, j ≠ i → L[j]? = some c → ∀ x, c.X x → ¬ a.X x := fun j c hj hc => s.dj j i c a hc hi hj
  have hdb : ∀ j c, j ≠ i → L[j]? = some c → ∀ x, c.X x → ¬ b.X x := by
    intro j c hj hc x hx hb
    rcases p.xs x hb with h1 | h1
    · exact hdj j c hj hc x hx h1
    · have := (s.so c (List.mem_of_getElem? hc)).lt x hx; omega
  refine ⟨p.so.wf, p.so.frz, fun c hc => ?_, fun c hc => ?_, fun c hc => ?_, fun j k c d hc hd hjk => ?_⟩
  · rcases hold c hc with rfl | ⟨j, hj, hc⟩
    · exact p.so
    · exact (s.so c (List.mem_of_getElem? hc)).beside p (hdj j c hj hc)
  · rcases hold c hc with rfl | ⟨j, hj, hc⟩
    · exact q
    · exact (s.qr c (List.mem_of_getElem? hc)).keepX p.sub fun x o hx hg => p.kx.get x o (hdj j c hj hc x hx) hg
  · rcases hold c hc with rfl | ⟨j, hj, hc⟩
    · exact hp
    · exact (s.pr c (List.mem_of_getElem? hc)).sub p.sub
  · rcases set_get hi hc with ⟨h1, h2⟩ | ⟨h1, h2⟩
    · rcases set_get hi hd with ⟨h3, h4⟩ | ⟨h3, h4⟩
      · omega
      · subst h2
        exact fun x hx hd' => hdb k d h3 h4 x hd' hx
    · rcases set_get hi hd with ⟨h3, h4⟩ | ⟨h3, h4⟩
      · subst h4
        exact hdb j c h1 h2
      · exact s.dj j k c d h2 h4 hjk
/-- One more. -/
theorem RS.snoc {E : Env} {G G' : Mem} {h h' : Heap} {L : List Rr} {b : Rr} (s : RS E G h L) (p : PX E G h (fun _ => False) G' h' b.X) (q : QR E G' h' b.X b.P [] b.r b.t) (hp : PRR E G' b.P b.cs) : RS E G' h' (L ++ [b]) := by
  have s' := s.other p (fun a ha x hx hf => hf)
  have hdb : ∀ c, c ∈ L → ∀ x, c.X x → ¬ b.X x := by
    intro c hc x hx hb
    rcases p.xs x hb with h1 | h1
    · exact h1
    · have := (s.so c hc).lt x hx; omega
  have hold : ∀ (j : Nat) c, (L ++ [b])[j]? = some c → (j < L.length ∧ L[j]? = some c) ∨ (j = L.length ∧ c = b) := by
    intro j c hc
    by_cases hj : j < L.length
    · rw [List.getElem?_append_left hj] at hc; exact .inl ⟨hj, hc⟩
    · rw [List.getElem?_append_right (by omega)] at hc
      by_cases h0 : j - L.length = 0
      · rw [h0] at hc; simp at hc; exact .inr ⟨by omega, hc.symm⟩
      · rw [List.getElem?_eq_none (by simp; omega)] at hc; cases hc
  refine ⟨p.so.wf, p.so.frz, fun c hc => ?_, fun c hc => ?_, fun c hc => ?_, fun j k c d hc hd hjk => ?_⟩
  · rcases List.mem_append.1 hc with hc | hc
    · exact s'.so c hc
    · simp at hc; subst hc; exact p.so
  · rcases List.mem_append.1 hc with hc | hc
    · exact s'.qr c hc
    · simp at hc; subst hc; exact q
  · rcases List.mem_append.1 hc with hc | hc
    · exact s'.pr c hc
    · simp at hc; subst hc; exact hp
  · rcases hold j c hc with ⟨h1, h2⟩ | ⟨h1, h2⟩
    · rcases hold k d hd with ⟨h3, h4⟩ | ⟨h3, h4⟩
      · exact s.dj j k c d h2 h4 hjk
      · subst h4; exact hdb c (List.mem_of_getElem? h2)
    · rcases hold k d hd with ⟨h3, h4⟩ | ⟨h3, h4⟩
      · subst h2; exact fun x hx hd' => hdb d (List.mem_of_getElem? h4) x hd' hx
      · omega
/-- All that is a group's. -/
def un (L : List Rr) (Y : Nat → Prop) : Nat → Prop := fun x => Y x ∨ ∃ a, a ∈ L ∧ a.X x
/-- A group in memory: what its fields L and Net are. -/
structure GS (E : Env) (G : Mem) (h : Heap) (L : List Rr) (Y : Nat → Prop) (net : List Mg) (vL vN : Value) : Prop where
  rs : RS E G h L
  sy : SO E G h Y
  dj : ∀ a, a ∈ L → ∀ x, a.X x → ¬ Y x
  ol : Own h 50 20 0 L.length (L.flatMap Rr.c) vL
  yl : ∀ b, b ∈ slB vL → Y b
  on : ∃ co, OwnQ h 62 17 net.length co vN ∧ MgsR E G net co
  yn : ∀ b, b ∈ slB vN → Y b
theorem GS.so {E : Env} {G : Mem} {h : Heap} {L : List Rr} {Y : Nat → Prop} {net : List Mg} {vL vN : Value} (g : GS E G h L Y net vL vN) : SO E G h (un L Y) :=
  ⟨g.rs.wf, g.rs.frz, fun b c hb hu => by
    rcases hu with h1 | ⟨a, ha, h1⟩
    · exact g.sy.dis b c hb h1
    · exact (g.rs.so a ha).dis b c hb h1, fun b hu => by
    rcases hu with h1 | ⟨a, ha, h1⟩
    · exact g.sy.lt b h1
    · exact (g.rs.so a ha).lt b h1⟩
theorem PX.wide {E : Env} {G G' : Mem} {h h' : Heap} {A A' Z Z' : Nat → Prop} (p : PX E G h A G' h' A') (hA : ∀ b, A b → Z b) (s' : SO E G' h' Z') (hx : ∀ b, Z' b → Z b ∨ h.next ≤ b) : PX E G h Z G' h' Z' :=
  ⟨p.sub, p.new, ⟨fun b o hn hb => p.kx.get b o (fun h => hn (hA b h)) hb, p.kx.next⟩, hx, s'⟩
theorem Own.other {h h' : Heap} {e z lo n : Nat} {cs : List Value} {v : Value} {Y X : Nat → Prop} (H : Own h e z lo n cs v) (hY : ∀ b, b ∈ slB v → Y b) (hd : ∀ x, X x → ¬ Y x) (k : KX X h h') : Own h' e z lo n cs v :=
  H.at fun b o hb hg => k.get b o (fun hx => hd b hx (hY b hb)) hg
theorem OwnQ.other {h h' : Heap} {e z n : Nat} {cs : List Value} {v : Value} {Y X : Nat → Prop} (H : OwnQ h e z n cs v) (hY : ∀ b, b ∈ slB v → Y b) (hd : ∀ x, X x → ¬ Y x) (k : KX X h h') : OwnQ h' e z n cs v :=
  H.at fun b o hb hg => k.get b o (fun hx => hd b hx (hY b hb)) hg
theorem GS.ext {E : Env} {G G' : Mem} {h h' : Heap} {L : List Rr} {Y : Nat → Prop} {net : List Mg} {vL vN : Value} (g : GS E G h L Y net vL vN) (x : Ext E G h G' h') : GS E G' h' L Y net vL vN := by
  obtain ⟨co, h1, h2⟩ := g.on
  exact ⟨g.rs.ext x, g.sy.ext x, g.dj, g.ol.at fun b o _ hg => x.keep.get b o hg, g.yl, ⟨co, h1.at fun b o _ hg => x.keep.get b o hg, h2.sub x.sub⟩, g.yn⟩
end Go.Tm
/- Chapter 25: what is done to a group in memory. -/
namespace Go.Tm
open Vr
theorem flat_take {α : Type} {f : α → List Value} {z : Nat} : ∀ {L : List α}, (∀ a, a ∈ L → (f a).length = z) → ∀ {i : Nat} {a : α}, L[i]? = some a → ((L.flatMap f).drop (i * z)).take z = f a
  | [], _, i, a, h => by simp at h
  | x :: L, hl, 0, a, h => by
    simp at h; subst h
    simp only [List.flatMap_cons, Nat.zero_mul, List.drop_zero]
    rw [← hl x (by simp), List.take_left]
  | x :: L, hl, i + 1, a, h => by
    simp only [List.flatMap_cons]
    rw [Nat.add_mul, Nat.one_mul, Nat.add_comm, ← List.drop_drop]
    have : (f x ++ L.flatMap f).drop z = L.flatMap f := by
      have := hl x (by simp)
      rw [← this, List.drop_left]
    rw [this]
    exact flat_take (fun a ha => hl a (by simp [ha])) (by simpa using h)
theorem flat_len {α : Type} {f : α → List Value} {z : Nat} : ∀ {L : List α}, (∀ a, a ∈ L → (f a).length = z) → (L.flatMap f).length = L.length * z
  | [], _ => by simp
  | x :: L, hl => by
    simp only [List.flatMap_cons, List.length_append, List.length_cons]
    rw [hl x (by simp), flat_len (L := L) (fun a ha => hl a (by simp [ha])), Nat.add_mul]; omega
theorem flat_set {α : Type} {f : α → List Value} {z : Nat} {b : α} (hb : (f b).length = z) {rest : List Value} : ∀ {L : List α}, (∀ a, a ∈ L → (f a).length = z) → ∀ {i : Nat}, i < L.length → splice (L.flatMap f ++ rest) (i * z) (f b) = (L.set i b).flatMap f ++ rest
  | [], _, i, h => by simp at h
  | x :: L, hl, 0, h => by
    have := hl x (by simp)
    unfold splice
    simp only [List.flatMap_cons, Nat.zero_mul, List.take_zero, List.nil_append, List.set_cons_zero, Nat.zero_add, List.append_assoc]
    rw [hb, ← this, List.drop_left]
  | x :: L, hl, i + 1, h => by
    have hx := hl x (by simp)
    have ih := flat_set hb (rest := rest) (L := L) (fun a ha => hl a (by simp [ha])) (i := i) (by simpa using h)
    unfold splice at ih ⊢
    simp only [List.flatMap_cons, List.set_cons_succ, List.append_assoc]
    rw [← ih, Nat.add_mul, Nat.one_mul, Nat.add_comm (i * z) z]
    rw [List.take_append, List.take_of_length_le (by omega), List.drop_append, List.drop_eq_nil_of_le (by omega)]
    rw [hx]
    simp only [List.nil_append, List.append_assoc]
    congr 3
    · congr 1; omega
    · congr 2; omega
theorem node1 {E : Env} {G : Mem} {a : Rr} (h : PRR E G a.P a.cs) : a.c.all Value.oneCell' = true := by
  obtain ⟨a1, c1, a2, c2, a3, c3, a4, c4, a5, c5, a6, c6, a7, c7, ct, cc, ca, h, _⟩ := h.e
  unfold Rr.c
  rw [h]; rfl
section
variable {E : Env} {G G' : Mem} {h h' : Heap} {L : List Rr} {Y : Nat → Prop} {net : List Mg} {vL vN : Value}
theorem GS.node (g : GS E G h L Y net vL vN) {i : Nat} {a : Rr} (hi : L[i]? = some a) : ∃ bL cap, vL = .slice (some ⟨bL, 0, none⟩) L.length cap ∧ acells E h ⟨bL, i * 20, none⟩ 20 = some a.c := by
  have hlt : i < L.length := (List.getElem?_eq_some_iff.1 hi).1
  obtain ⟨b, c, e1, e2⟩ := g.ol.elem g.rs.wf hlt
  rw [flat_take g.rs.len hi] at e2
  exact ⟨b, c, e1, e2⟩
/-- A replica moves; its node is laid back. -/
theorem GS.store (g : GS E G h L Y net vL vN) {i : Nat} {a b : Rr} (hi : L[i]? = some a) (p : PX E G h a.X G' h' b.X) (q : QR E G' h' b.X b.P [] b.r b.t) (hp : PRR E G' b.P b.cs) :
    ∃ bL cap o, vL = .slice (some ⟨bL, 0, none⟩) L.length cap ∧ awrite h' ⟨bL, i * 20, none⟩ b.c = some (h'.put bL o) ∧ Y bL ∧ GS E G' (h'.put bL o) (L.set i b) Y net vL vN ∧ PX E G h (un L Y) G' (h'.put bL o) (un (L.set i b) Y) := by
  have hlt : i < L.length := (List.getElem?_eq_some_iff.1 hi).1
  have ha := List.mem_of_getElem? hi
  have hb20 : b.c.length = 20 := by simp [Rr.c, hp.len18]
  have hl := g.rs.len
  have rs' := g.rs.set hi p q hp
  have sy' := g.sy.beside p (fun x hy hx => g.dj a ha x hx hy)
  have ol' := g.ol.other g.yl (g.dj a ha) p.kx
  obtain ⟨co, on, mn⟩ := g.on
  have on' := on.other g.yn (g.dj a ha) p.kx
  have hdj' : ∀ c, c ∈ L.set i b → ∀ x, c.X x → ¬ Y x := by
    intro c hc x hx hy
    obtain ⟨j, hj⟩ := List.mem_iff_getElem?.1 hc
    rcases set_get hi hj with ⟨_, h2⟩ | ⟨_, h2⟩
    · subst h2
      rcases p.xs x hx with h3 | h3
      · exact g.dj a ha x h3 hy
      · have := g.sy.lt x hy; omega
    · exact g.dj c (List.mem_of_getElem? h2) x hx hy
  have hyl := g.yl
  rcases ol' with ⟨_, h0, _⟩ | ⟨bL, cap, rest, fx, rfl, hg, h1, h2, h3, h4, h5⟩
  · omega
  have hY : Y bL := hyl bL (by simp [slB])
  refine ⟨bL, cap, .cells ((L.set i b).flatMap Rr.c ++ rest) 50 fx, rfl, ?_, hY, ?_⟩
  · unfold awrite
    simp only [hg]
    have h20 : i * 20 + b.c.length ≤ (L.flatMap Rr.c ++ rest).length := by
      rw [List.length_append, h1, hb20]; omega
    rw [if_pos ⟨h20, node1 hp⟩, flat_set hb20 hl hlt]
  have pp := PX.put sy' (o := .cells ((L.set i b).flatMap Rr.c ++ rest) 50 fx) hY hg
  have gs : GS E G' (h'.put bL (.cells ((L.set i b).flatMap Rr.c ++ rest) 50 fx)) (L.set i b) Y net (.slice (some ⟨bL, 0, none⟩) L.length cap) vN := by
    refine ⟨rs'.other pp hdj', pp.so, hdj', ?_, hyl, ⟨co, ?_, mn.sub p.sub⟩, g.yn⟩
    · rw [List.length_set]
      refine .inr ⟨bL, cap, rest, fx, rfl, by rw [get_put, if_pos rfl], ?_, h2, h3, h4, h5⟩
      rw [flat_len (z := 20), List.length_set]
      intro c hc
      exact rs'.len c hc
    · refine on'.at fun x o hx hgx => ?_
      rw [get_put, if_neg]
      · exact hgx
      · rintro rfl
        rcases on' with ⟨rfl, _⟩ | ⟨b', off, cap', pre, rest', fx', rfl, hg', _⟩ | ⟨b', off, kk, pre, fx', rfl, _, _, hg', _⟩
        · simp [slB] at hx
        · simp [slB] at hx; subst hx
          rw [hg] at hg'; injection hg' with hg'; injection hg' with _ hg' _; exact absurd hg' (by decide)
        · simp [slB] at hx; subst hx
          rw [hg] at hg'; injection hg' with hg'; injection hg' with _ hg' _; exact absurd hg' (by decide)
  refine ⟨gs, ?_⟩
  have hxs : ∀ x, un (L.set i b) Y x → un L Y x ∨ h.next ≤ x := by
    rintro x (hx | ⟨c, hc, hx⟩)
    · exact .inl (.inl hx)
    · obtain ⟨j, hj⟩ := List.mem_iff_getElem?.1 hc
      rcases set_get hi hj with ⟨_, h2⟩ | ⟨_, h2⟩
      · subst h2
        rcases p.xs x hx with h3 | h3
        · exact .inl (.inr ⟨a, ha, h3⟩)
        · exact .inr h3
      · exact .inl (.inr ⟨c, List.mem_of_getElem? h2, hx⟩)
  refine ⟨p.sub, p.new, ⟨fun x o hn hb => ?_, by simpa using p.kx.next⟩, hxs, gs.so⟩
  rw [get_put, if_neg (fun e => hn (.inl (by rw [← e]; exact hY)))]
  exact p.kx.get x o (fun hx => hn (.inr ⟨a, ha, hx⟩)) hb
theorem GS.own_ne (g : GS E G h L Y net vL vN) : ∀ b, b ∈ slB vN → b ∉ slB vL := by
  intro b hb hl
  obtain ⟨co, on, mn⟩ := g.on
  have ol := g.ol
  rcases ol with ⟨rfl, _⟩ | ⟨bL, cap, rest, fx, rfl, hg, _⟩
  · simp [slB] at hl
  · simp [slB] at hl; subst hl
    rcases on with ⟨rfl, _⟩ | ⟨b', off, cap', pre, rest', fx', rfl, hg', _⟩ | ⟨b', off, kk, pre, fx', rfl, _, _, hg', _⟩
    · simp [slB] at hb
    · simp [slB] at hb; subst hb
      rw [hg] at hg'; injection hg' with hg'; injection hg' with _ hg' _; exact absurd hg' (by decide)
    · simp [slB] at hb; subst hb
      rw [hg] at hg'; injection hg' with hg'; injection hg' with _ hg' _; exact absurd hg' (by decide)
/-- A message more waits. -/
theorem GS.push (g : GS E G h L Y net vL vN) {co ms : List Value} {v' : Value} {m : Mg} (hc : MgsR E G net co) (hm : MgR E G m ms) (a : ApdQ E h h' 62 17 (net.length + 1) (co ++ ms) vN v') : GS E G h' L (fun b => Y b ∨ b ∈ slB v') (net ++ [m]) vL v' ∧ PX E G h (un L Y) G h' (un L (fun b => Y b ∨ b ∈ slB v')) := by
  have hne := g.own_ne
  have pY : PX E G h Y G h' (fun b => Y b ∨ b ∈ slB v') := by
    refine ⟨Sub.refl _, fun b c x => .inl x, ⟨fun b o hn hb => a.get b o hb fun hs => hn (g.yn b hs), a.next⟩, fun b hb => ?_, a.wf, fun b c hb => ?_, fun b c hb => ?_, fun b hb => ?_⟩
    · rcases hb with hb | hb
      · exact .inl hb
      · rcases a.blk b hb with h1 | h1
        · exact .inl (g.yn b h1)
        · exact .inr h1
    · obtain ⟨e, fx, hg⟩ := g.rs.frz b c hb
      exact ⟨e, fx, a.get _ _ hg fun hs => g.sy.dis b c hb (g.yn b hs)⟩
    · rintro (h1 | h1)
      · exact g.sy.dis b c hb h1
      · rcases a.blk b h1 with h2 | h2
        · exact g.sy.dis b c hb (g.yn b h2)
        · rw [g.sy.gnone h2] at hb; cases hb
    · rcases hb with hb | hb
      · exact Nat.lt_of_lt_of_le (g.sy.lt b hb) a.next
      · exact a.lt b hb
  have hdj : ∀ c, c ∈ L → ∀ x, c.X x → ¬ (Y x ∨ x ∈ slB v') := by
    rintro c hc x hx (h1 | h1)
    · exact g.dj c hc x hx h1
    · rcases a.blk x h1 with h2 | h2
      · exact g.dj c hc x hx (g.yn x h2)
      · have := (g.rs.so c hc).lt x hx; omega
  have gs : GS E G h' L (fun b => Y b ∨ b ∈ slB v') (net ++ [m]) vL v' := by
    refine ⟨g.rs.other pY g.dj, pY.so, hdj, g.ol.at fun b o hb hg => a.get b o hg fun hs => hne b hs hb, fun b hb => .inl (g.yl b hb), ⟨co ++ ms, ?_, ?_⟩, fun b hb => .inr hb⟩
    · rw [List.length_append]; exact a.own
    · exact hc.app (by exact ⟨ms, [], by simp, hm, rfl⟩)
  refine ⟨gs, pY.wide (fun b hb => .inl hb) gs.so fun b hb => ?_⟩
  rcases hb with (hb | hb) | hb
  · exact .inl (.inl hb)
  · rcases a.blk b hb with h1 | h1
    · exact .inl (.inl (g.yn b h1))
    · exact .inr h1
  · exact .inl (.inr hb)
end
end Go.Tm
/- Chapter 25: a group in memory, and what lies beside it. -/
namespace Go.Tm
open Vr
theorem OwnQ.tag {h : Heap} {e z n : Nat} {cs : List Value} {v : Value} (H : OwnQ h e z n cs v) {b : Nat} {o : AObj} (hb : h.get b = some o) (ho : ∀ c fx, o ≠ .cells c e fx) : b ∉ slB v := by
  intro hs
  rcases H with ⟨rfl, _⟩ | ⟨b', off, cap', pre, rest', fx', rfl, hg', _⟩ | ⟨b', off, kk, pre, fx', rfl, _, _, hg', _⟩
  · simp [slB] at hs
  · simp [slB] at hs; subst hs
    rw [hb] at hg'; injection hg' with hg'; exact ho _ _ hg'
  · simp [slB] at hs; subst hs
    rw [hb] at hg'; injection hg' with hg'; exact ho _ _ hg'
theorem OwnQ.keep {h h' : Heap} {e z n : Nat} {cs : List Value} {v : Value} (H : OwnQ h e z n cs v) (k : Keep h h') : OwnQ h' e z n cs v := H.at fun b o _ hg => k.get b o hg
/-- Of one element, just laid. -/
theorem kwv_Q1 {E : Env} {h : Heap} {t e e' z by_ n : Nat} {cs xs : List Value} {v : Value} {d : Option Nat} {R : Cont} {tm : Tr Value} (T : Elem E t e z by_) (hW : WF E h) (H : OwnQ h e z n cs v)
    (hl : xs.length = z) (ho : xs.all Value.oneCell' = true) (hb : (n + 1) * by_ ≤ 140737488355328) (hn : n + 1 ≤ 9223372036854775807)
    (K : ∀ v' h', ApdQ E h h' e z (n + 1) (cs ++ xs) v v' → R (aput tm d v') h') : kwv (aappend E (h.push (.cells xs e' true)) t t v (.slice (some ⟨h.next, 0, none⟩) 1 1)) d R tm (h.push (.cells xs e' true)) := by
  have kp := (Keep.refl h).push (o := .cells xs e' true) hW
  refine kwv_Q T (hW.push _) (H.keep kp) rfl (by omega) ?_ (by omega) ho hb hn fun v' h' a => K v' h' ⟨a.own, fun b o hb hn => a.get b o (kp.get b o hb) hn, fun b hb => ?_, a.lt, ?_, a.wf⟩
  · have hz := T.pos
    simp only [asrc, Nat.one_mul]
    rw [if_neg (by omega)]
    unfold acells
    simp only [hW.nb0, if_false, get_push, if_true, Nat.zero_add]
    rw [if_pos (by omega), List.drop_zero, List.take_of_length_le (by omega)]
  · rcases a.blk b hb with h1 | h1
    · exact .inl h1
    · right; simp at h1; omega
  · have := a.next; simp at this; omega
section
variable {E : Env} {G G' : Mem} {h h' : Heap} {L : List Rr} {Y : Nat → Prop} {net : List Mg} {vL vN : Value}
theorem GS.other {Z Z' : Nat → Prop} (g : GS E G h L Y net vL vN) (p : PX E G h Z G' h' Z') (hd : ∀ x, un L Y x → ¬ Z x) : GS E G' h' L Y net vL vN := by
  obtain ⟨co, h1, h2⟩ := g.on
  refine ⟨g.rs.other p fun a ha x hx => hd x (.inr ⟨a, ha, hx⟩), g.sy.beside p fun x hx => hd x (.inl hx), g.dj, g.ol.at fun b o hb hg => p.kx.get b o (hd b (.inl (g.yl b hb))) hg, g.yl, ⟨co, h1.at fun b o hb hg => p.kx.get b o (hd b (.inl (g.yn b hb))) hg, h2.sub p.sub⟩, g.yn⟩
theorem PX.self {b : Nat} {o o' : AObj} (w : WF E h) (f : Frz E G h) (hb : h.get b = some o') (hG : G b = none) : PX E G h (fun x => x = b) G (h.put b o) (fun x => x = b) :=
  PX.put (X := fun x => x = b) ⟨w, f, fun x c hx (e : x = b) => (by rw [e, hG] at hx; cases hx), fun x (e : x = b) => (by rw [e]; exact (w.live _ _ hb).2)⟩ rfl hb
/-- A box beside is written. -/
theorem GS.put {b : Nat} {o o' : AObj} (g : GS E G h L Y net vL vN) (hb : h.get b = some o') (hG : G b = none) (hn : ¬ un L Y b) : GS E G (h.put b o) L Y net vL vN :=
  g.other (PX.self g.rs.wf g.rs.frz hb hG) fun x hx e => hn (by rw [← e]; exact hx)
end
end Go.Tm
/- Chapter 25, plain: a group without faults. -/
namespace Vr
/-- What waits behind a deed. -/
def addNet (net out : List Mg) : List Mg := net ++ (out.filter fun m => decide (m.to < 100)).take (400 - net.length)
abbrev GG := (Nat → PR) × List Mg
def actF (g : GG) (i : Nat) (r : PR × List Mg) : GG := (fun j => if j = i then r.1 else g.1 j, addNet g.2 r.2)
noncomputable def deliverF : Nat → GG → GG
  | 0, g => g
  | _ + 1, (l, []) => (l, [])
  | n + 1, (l, m :: net) => deliverF n (actF (l, net) m.to (stepP (l m.to) m))
theorem execS_snoc (l : List Ent) (e : Ent) : execS (l ++ [e]) = (applyS (execS l) e).1 := by simp [execS]
theorem commitK_st : ∀ (l : List Ent) (P : PR), (commitK l P).1 = { P with sv := l.foldl (fun s e => (applyS s e).1) P.sv, cm := P.cm + l.length }
  | [], P => by simp [commitK]
  | e :: l, P => by
    rw [commitK]
    simp only [commitK_st l, commit1, List.foldl_cons, List.length_cons]
    congr 1; omega
theorem commitK_out : ∀ (l : List Ent) (P : PR), ∀ m, m ∈ (commitK l P).2 → 100 ≤ m.to
  | [], P, m, h => by simp [commitK] at h
  | e :: l, P, m, h => by
    rw [commitK] at h
    simp only [List.mem_append] at h
    rcases h with h | h
    · unfold commit1 at h
      simp only at h
      split at h
      · simp only [List.mem_singleton] at h
        subst h
        simp [PR.toM]
      · simp at h
    · exact commitK_out l _ m h
theorem commit_nonprim (l : List Ent) : ∀ (P : PR), (P.st = 0 ∧ P.prim = true → False) → (commitK l P).2 = [] := by
  induction l with
  | nil => intro P _; rfl
  | cons e l ih =>
    intro P h
    rw [commitK]
    simp only
    rw [ih _ (by simpa [commit1, PR.prim] using h)]
    unfold commit1
    simp only
    rw [if_neg (by simpa [PR.prim] using h)]
    rfl
theorem addNet_nil (net : List Mg) : addNet net [] = net := by simp [addNet]
theorem addNet_far (net out : List Mg) (h : ∀ m, m ∈ out → 100 ≤ m.to) : addNet net out = net := by
  unfold addNet
  have : out.filter (fun m => decide (m.to < 100)) = [] := by
    rw [List.filter_eq_nil_iff]
    intro m hm
    have := h m hm
    simp; omega
  rw [this]; simp
theorem addNet_near (net out : List Mg) (h : ∀ m, m ∈ out → m.to < 100) (hl : net.length + out.length ≤ 400) : addNet net out = net ++ out := by
  unfold addNet
  have : out.filter (fun m => decide (m.to < 100)) = out := by
    rw [List.filter_eq_self]
    intro m hm
    simpa using h m hm
  rw [this, List.take_of_length_le (by omega)]
theorem addNet_app (net a b : List Mg) (hb : ∀ m, m ∈ b → 100 ≤ m.to) : addNet net (b ++ a) = addNet net a := by
  unfold addNet
  rw [List.filter_append]
  have : b.filter (fun m => decide (m.to < 100)) = [] := by
    rw [List.filter_eq_nil_iff]
    intro m hm
    have := hb m hm
    simp; omega
  rw [this]; rfl
/-- A replica of a group without faults. -/
def cst (n j : Nat) (W : List Ent) (c : Nat) (told : List Nat) : PR := { PR.new j n with log := W, cm := c, sv := execS (W.take c), told := told }
theorem cst_op {n j c : Nat} {W : List Ent} {t : List Nat} : (cst n j W c t).op = W.length := by simp [cst, PR.op, PR.new]
theorem cst_commit {n j c k : Nat} {W : List Ent} {t : List Nat} (hc : c ≤ k) (hk : k ≤ W.length) : (commit (cst n j W c t) k).1 = cst n j W k t := by
  unfold commit
  rw [commitK_st]
  have hl : ((cst n j W c t).todo k) = (W.drop c).take (k - c) := by simp [PR.todo, cst, PR.new]
  rw [hl]
  have hlen : ((W.drop c).take (k - c)).length = k - c := by simp; omega
  have he : execS (W.take k) = ((W.drop c).take (k - c)).foldl (fun s e => (applyS s e).1) (execS (W.take c)) := by
    have : W.take k = W.take c ++ (W.drop c).take (k - c) := by
      rw [← List.take_add]; congr 1; omega
    rw [this]
    simp [execS]
  simp only [cst, hlen]
  rw [← he]
  congr 1
  all_goals omega
end Vr
namespace Vr
theorem addNet_step {net out : List Mg} {i : Nat} (hi : i < out.length) (hl : (addNet net (out.take i)).length < 400) : addNet net (out.take (i + 1)) = addNet net (out.take i) ++ if out[i].to < 100 then [out[i]] else [] := by
  unfold addNet at hl ⊢
  rw [List.take_succ_eq_append_getElem hi, List.filter_append, List.length_append] at *
  generalize (out.take i).filter (fun m => decide (m.to < 100)) = f at *
  rw [List.length_take] at hl
  have hf : f.length < 400 - net.length := by omega
  rw [List.take_append, List.take_of_length_le (by omega), ← List.append_assoc]
  congr 1
  by_cases h : out[i].to < 100
  · simp only [List.filter_cons, h, decide_true, if_true, List.filter_nil]
    rw [List.take_of_length_le (by simp; omega)]
  · simp [h]
theorem addNet_full {net out : List Mg} {i : Nat} (hl : 400 ≤ (addNet net (out.take i)).length) : addNet net out = addNet net (out.take i) := by
  unfold addNet at hl ⊢
  have e : out = out.take i ++ out.drop i := (List.take_append_drop i out).symm
  conv => lhs; rw [e]
  rw [List.filter_append]
  generalize (out.take i).filter (fun m => decide (m.to < 100)) = f at *
  generalize (out.drop i).filter (fun m => decide (m.to < 100)) = g at *
  congr 1
  rw [List.length_append, List.length_take] at hl
  rw [List.take_append]
  have : 400 - net.length - f.length = 0 := by omega
  rw [this]
  simp
end Vr
