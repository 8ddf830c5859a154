/- Cutting a frozen list of single cells. -/
/- Merged by a program of ours: L4 L5 P1 L6 L7 L8 L9. -/
import Derived.Test.YthdgobcpefcolaaGreatDoorG10
import Derived.IntWalk
import Derived.Laws.Bits64
import Derived.Laws.Bits64b
import Derived.Lib.Zigzag
import Derived.Lib.ValidU
set_option maxRecDepth 10000
set_option linter.all false
set_option linter.unusedSimpArgs false
set_option linter.unusedVariables false
/- The logic, fourth part: what grows. -/
namespace Go.Tm

/-- Below a block all is as it was. -/
structure KeepLo (lo : Nat) (h h' : Heap) : Prop where
  get : ∀ b o, b < lo → h.get b = some o → h'.get b = some o
  next : h.next ≤ h'.next
theorem KeepLo.refl (lo : Nat) (h : Heap) : KeepLo lo h h := ⟨fun _ _ _ x => x, Nat.le_refl _⟩
theorem KeepLo.trans {lo : Nat} {h h1 h2 : Heap} (a : KeepLo lo h h1) (b : KeepLo lo h1 h2) : KeepLo lo h h2 := ⟨fun x o l y => b.get x o l (a.get x o l y), Nat.le_trans a.next b.next⟩
theorem Keep.lo {lo : Nat} {h h' : Heap} (k : Keep h h') : KeepLo lo h h' := ⟨fun b o _ x => k.get b o x, k.next⟩
theorem KeepLo.keep {E : Env} {lo : Nat} {h h' : Heap} (hw : WF E h) (k : KeepLo lo h h') (hl : h.next ≤ lo) : Keep h h' := ⟨fun b o x => k.get b o (by have := (hw.live b o x).2; omega) x, k.next⟩
/-- Kept over something in between. -/
theorem Keep.thenLo {E : Env} {lo : Nat} {h h1 h2 : Heap} (hw : WF E h) (a : Keep h h1) (b : KeepLo lo h1 h2) (hl : h.next ≤ lo) : Keep h h2 :=
  ⟨fun x o y => b.get x o (by have := (hw.live x o y).2; omega) (a.get x o y), Nat.le_trans a.next b.next⟩
theorem KeepLo.push {lo : Nat} {h h1 : Heap} {o : AObj} (a : KeepLo lo h h1) (hl : lo ≤ h1.next) : KeepLo lo h (h1.push o) := ⟨fun x p l y => by
  rw [get_push, if_neg (by omega)]; exact a.get x p l y, by have := a.next; simp; omega⟩

/-- A list that this call itself makes: v holds n elements of e (z cells each), the cells cs; its block lies from lo on. -/
def Own (h : Heap) (e z lo n : Nat) (cs : List Value) (v : Value) : Prop :=
  (v = .slice none 0 0 ∧ n = 0 ∧ cs = []) ∨ ∃ b cap rest fx, v = .slice (some ⟨b, 0, none⟩) n cap ∧ h.get b = some (.cells (cs ++ rest) e fx) ∧ cs.length = n * z ∧ rest.length = (cap - n) * z ∧ n ≤ cap ∧ lo ≤ b ∧ cap ≤ 9223372036854775807

theorem Own.nil (h : Heap) (e z lo : Nat) : Own h e z lo 0 [] (.slice none 0 0) := .inl ⟨rfl, rfl, rfl⟩

theorem splice_end {cs rest xs : List Value} (h : xs.length ≤ rest.length) : splice (cs ++ rest) cs.length xs = (cs ++ xs) ++ rest.drop xs.length := by
  unfold splice
  rw [List.take_left, List.drop_length_add_append]

/-- What an element type must be. -/
structure Elem (E : Env) (t e z by_ : Nat) : Prop where
  und : E.P.underlying t = some (.slice e)
  info : (E.P.info? e).map (fun i => (i.size, i.bytes)) = some (z, by_)
  zero : ∃ v, azero E.P e = some v ∧ (vcells v).length = z
  pos : 0 < z

theorem append_own {E : Env} {h : Heap} {t e z by_ lo n m : Nat} {cs xs : List Value} {v x : Value} (T : Elem E t e z by_) (hW : WF E h) (hlo : lo ≤ h.next) (H : Own h e z lo n cs v)
    (hm : alenOf x = some m) (h0 : 0 < m) (hx : asrc E h z x m = some xs) (hl : xs.length = m * z) (ho : xs.all Value.oneCell' = true)
    (hb : (n + m) * by_ ≤ 140737488355328) (hn : n + m ≤ 9223372036854775807) :
    ∃ v' h', aappend E h t t v x = some (v', h') ∧ Own h' e z lo (n + m) (cs ++ xs) v' ∧ KeepLo lo h h' ∧ WF E h' ∧
      (∀ b o, h.get b = some o → (∀ c, ∀ a k, v = .slice (some a) k c → a.block ≠ b) → h'.get b = some o) := by
  obtain ⟨i, hi, hiz⟩ : ∃ i, E.P.info? e = some i ∧ (i.size, i.bytes) = (z, by_) := by
    have := T.info
    rw [Option.map_eq_some_iff] at this
    exact this
  injection hiz with hz1 hz2
  subst hz1; subst hz2
  obtain ⟨zv, hzv, hzl⟩ := T.zero
  have hpos := T.pos
  have main : ∀ base sCap, v = .slice base n sCap → aappend E h t t v x = aappendE E h e i base n sCap m x := by
    intro base sCap hv
    subst hv
    simp only [aappend, T.und, hm, isIntD, Bool.false_eq_true, if_false, hi]
  have none' : ∀ base sCap, n + m > sCap → aappendE E h e i base n sCap m x = agrow E h e i base n sCap m xs := by
    intro base sCap hc
    unfold aappendE
    rw [if_neg (by omega)]
    simp only [hx]
    rw [if_neg (by omega)]
  rcases H with ⟨rfl, rfl, rfl⟩ | ⟨b, cap, rest, fx, rfl, hg, hc1, hc2, hc3, hc4, hc5⟩
  · refine ⟨_, _, ?_, .inr ⟨h.next, m, [], false, rfl, ?_, by simpa using hl, by simp, by omega, hlo, by omega⟩, (KeepLo.refl lo h).push (o := .cells xs e false) hlo, hW.push _, ?_⟩
    · rw [main none 0 rfl, none' none 0 (by omega)]
      unfold agrow
      rw [if_pos ⟨by omega, hl, hpos, by omega, ho⟩]
      simp only [hzv]
      rw [if_pos hzl]
      simp [anew]
    · simp [get_push]
    · intro j o hj _
      rw [get_push, if_neg (by have := (hW.live j o hj).2; omega)]; exact hj
  · by_cases hroom : n + m ≤ cap
    · have hlen : cs.length + xs.length ≤ (cs ++ rest).length := by
        simp only [List.length_append]
        rw [hc2, hl]
        have : m * i.size ≤ (cap - n) * i.size := Nat.mul_le_mul_right _ (by omega)
        omega
      refine ⟨.slice (some ⟨b, 0, none⟩) (n + m) cap, h.put b (.cells ((cs ++ xs) ++ rest.drop xs.length) e fx), ?_, .inr ⟨b, cap, rest.drop xs.length, fx, rfl, ?_, ?_, ?_, hroom, hc4, hc5⟩, ⟨?_, by simp⟩, hW.put hg, ?_⟩
      · rw [main _ cap rfl]
        unfold aappendE
        rw [if_neg (by omega)]
        simp only [hx]
        rw [if_pos hroom]
        simp only [addo, Nat.zero_add, awrite, hg]
        rw [if_pos ⟨by rw [← hc1]; exact hlen, ho⟩]
        simp only [Option.map_some]
        rw [← hc1, splice_end (by
          have : m * i.size ≤ (cap - n) * i.size := Nat.mul_le_mul_right _ (by omega)
          omega)]
      · rw [get_put, if_pos rfl, List.append_assoc]
      · simp only [List.length_append, hc1, hl]; rw [Nat.add_mul]
      · rw [List.length_drop, hc2, hl, ← Nat.sub_mul]; congr 1; omega
      · intro j o hj hgj
        rw [get_put, if_neg (by omega)]; exact hgj
      · intro j o hgj hne
        rw [get_put, if_neg (hne cap ⟨b, 0, none⟩ n rfl)]; exact hgj
    · have hd : (List.drop 0 (cs ++ rest)).take (n * i.size) = cs := by
        rw [List.drop_zero, ← hc1, List.take_left]
      have hgr : ∀ (h2 : Heap), h2.next = h.next → agrow E h e i (some ⟨b, 0, none⟩) n cap m xs = (if fx then some (.slice (some (anew h)) (n + m) (n + m), h.push (.cells (cs ++ xs) e false)) else some (.slice (some (anew h)) (n + m) (n + m), (h.kill b).push (.cells (cs ++ xs) e false))) := by
        intro _ _
        unfold agrow
        rw [if_pos ⟨hb, hl, hpos, by omega, ho⟩]
        simp only [hzv]
        rw [if_pos hzl]
        simp only [hg, hd]
        rw [if_pos ⟨trivial, by simp only [aend, List.length_append, hc1, hc2]; rw [Nat.zero_add, ← Nat.add_mul]; congr 1; omega, by simp, by omega⟩]
      have hg2 := hgr h rfl
      cases fx with
      | true =>
        refine ⟨_, _, by rw [main _ cap rfl, none' _ cap (by omega), hg2]; rfl, .inr ⟨h.next, n + m, [], false, rfl, ?_, ?_, by simp, by omega, hlo, hn⟩, (KeepLo.refl lo h).push hlo, hW.push _, ?_⟩
        · simp [get_push]
        · simp only [List.length_append, hc1, hl]; rw [Nat.add_mul]
        · intro j o hj _
          rw [get_push, if_neg (by have := (hW.live j o hj).2; omega)]; exact hj
      | false =>
        refine ⟨_, _, by rw [main _ cap rfl, none' _ cap (by omega), hg2]; rfl, .inr ⟨h.next, n + m, [], false, rfl, ?_, ?_, by simp, by omega, hlo, hn⟩, ⟨?_, by simp⟩, (hW.kill (b := b)).push _, ?_⟩
        · simp [get_push]
        · simp only [List.length_append, hc1, hl]; rw [Nat.add_mul]
        · intro j o hj hgj
          rw [get_push, next_kill, if_neg (by omega), get_kill, if_neg (by omega)]; exact hgj
        · intro j o hj hne
          rw [get_push, next_kill, if_neg (by have := (hW.live j o hj).2; omega), get_kill, if_neg (hne cap ⟨b, 0, none⟩ n rfl)]; exact hj
theorem Own.keep {h h' : Heap} {e z lo n : Nat} {cs : List Value} {v : Value} (H : Own h e z lo n cs v) (k : Keep h h') : Own h' e z lo n cs v := by
  rcases H with H | ⟨b, cap, rest, fx, h1, h2, h3⟩
  · exact .inl H
  · exact .inr ⟨b, cap, rest, fx, h1, k.get _ _ h2, h3⟩
/-- An append at a list of one's own. -/
theorem kwv_own {E : Env} {h : Heap} {t e z by_ lo n m : Nat} {cs xs : List Value} {v x : Value} {d : Option Nat} {R : Cont} {tm : Tr Value} (T : Elem E t e z by_) (hW : WF E h) (hlo : lo ≤ h.next) (H : Own h e z lo n cs v)
    (hm : alenOf x = some m) (h0 : 0 < m) (hx : asrc E h z x m = some xs) (hl : xs.length = m * z) (ho : xs.all Value.oneCell' = true)
    (hb : (n + m) * by_ ≤ 140737488355328) (hn : n + m ≤ 9223372036854775807)
    (K : ∀ v' h', Own h' e z lo (n + m) (cs ++ xs) v' → KeepLo lo h h' → WF E h' → R (aput tm d v') h') : kwv (aappend E h t t v x) d R tm h := by
  obtain ⟨v', h', e1, e2, e3, e4, _⟩ := append_own T hW hlo H hm h0 hx hl ho hb hn
  exact ⟨(v', h'), e1, K v' h' e2 e3 e4⟩
/-- An append of one element, just laid, at a list of one's own. -/
theorem kwv_own1 {E : Env} {h : Heap} {t e e' z by_ lo n : Nat} {cs xs : List Value} {v : Value} {d : Option Nat} {R : Cont} {tm : Tr Value} (T : Elem E t e z by_) (hW : WF E h) (hlo : lo ≤ h.next) (H : Own h e z lo n cs v)
    (hl : xs.length = z) (ho : xs.all Value.oneCell' = true) (hb : (n + 1) * by_ ≤ 140737488355328) (hn : n + 1 ≤ 9223372036854775807)
    (K : ∀ v' h', Own h' e z lo (n + 1) (cs ++ xs) v' → KeepLo lo h h' → WF E h' → R (aput tm d v') h') : kwv (aappend E (h.push (.cells xs e' true)) t t v (.slice (some ⟨h.next, 0, none⟩) 1 1)) d R tm (h.push (.cells xs e' true)) := by
  refine kwv_own (m := 1) (xs := xs) T (hW.push _) (lo := lo) (by simp; omega) (H.keep ((Keep.refl h).push hW)) rfl (by omega) ?_ (by omega) ho hb hn ?_
  · have hz := T.pos
    simp only [asrc, Nat.one_mul]
    rw [if_neg (by omega)]
    unfold acells
    simp only [hW.nb0, if_false, get_push, if_true, Nat.zero_add]
    rw [if_pos (by omega), List.drop_zero, List.take_of_length_le (by omega)]
  · intro v' h' a b c
    exact K v' h' a ((((KeepLo.refl lo h).push (o := .cells xs e' true) hlo)).trans b) c
theorem makeSlice_at {E : Env} {t e z by_ : Nat} (T : Elem E t e z by_) {zs : List Value} (hz : ∃ v, azero E.P e = some v ∧ vcells v = zs) {k k' : IntKind} {l c : Int} (h0 : 0 ≤ l) (h1 : l ≤ c) (h2 : (by_ : Int) * c ≤ 281474976710656) (h3 : c ≤ 9223372036854775807) :
    amk E.P t (.int k l) (.int k' c) = some (fun b => .slice (some ⟨b, 0, none⟩) l.toNat c.toNat, .cells (arep c.toNat zs) e true) := by
  obtain ⟨i, hi, hiz⟩ : ∃ i, E.P.info? e = some i ∧ (i.size, i.bytes) = (z, by_) := by
    have := T.info
    rw [Option.map_eq_some_iff] at this
    exact this
  injection hiz with hz1 hz2
  subst hz1; subst hz2
  obtain ⟨v, hv, rfl⟩ := hz
  obtain ⟨v', hv', hl⟩ := T.zero
  rw [hv] at hv'; injection hv' with hv'; subst hv'
  simp only [amk, T.und, hi, hv]
  rw [if_pos ⟨h0, h1, h3, h2, hl, T.pos⟩]
theorem arep_len (n : Nat) (z : List Value) : (arep n z).length = n * z.length := by
  induction n with
  | zero => simp [arep]
  | succ n ih => simp [arep, ih, Nat.add_mul]; omega
/-- A list just made. -/
theorem Own.made {h : Heap} {e z lo c : Nat} {zs : List Value} (hz : zs.length = z) (hl : lo ≤ h.next) (hc : c ≤ 9223372036854775807) : Own (h.push (.cells (arep c zs) e true)) e z lo 0 [] (.slice (some ⟨h.next, 0, none⟩) 0 c) :=
  .inr ⟨h.next, c, arep c zs, true, rfl, by simp [get_push], by simp, by rw [arep_len, hz]; simp, by omega, hl, hc⟩
theorem wdraw_calm {E : Env} {O : List Oper} {Q : Cont} {tm : Tr Value} {h : Heap} (hc : calm E.P O = true) (H : wpo E O O Q tm h) : wdraw E O Q tm h := .inl ⟨hc, H⟩
theorem buildSlice_one {E : Env} {t e z by_ : Nat} (T : Elem E t e z by_) {v : Value} (hl : (vcells v).length = z) (hz : z ≤ 16777216) : abs1 E.P t 1 [(0, v)] = some (fun b => .slice (some ⟨b, 0, none⟩) 1 1, .cells (vcells v) e true) := by
  obtain ⟨i, hi, hiz⟩ : ∃ i, E.P.info? e = some i ∧ (i.size, i.bytes) = (z, by_) := by
    have := T.info
    rw [Option.map_eq_some_iff] at this
    exact this
  injection hiz with hz1 hz2
  subst hz1; subst hz2
  obtain ⟨zv, hzv, hzl⟩ := T.zero
  obtain ⟨z', hz'⟩ : ∃ z', i.size = z' + 1 := ⟨i.size - 1, by have := T.pos; omega⟩
  have hs : asz E.P e = some (z' + 1) := by simp [asz, hi, hz']
  simp only [abs1, T.und, hs, hzv]
  rw [if_pos ⟨by omega, by rw [hzl, hz']⟩]
  have harep : arep 1 (vcells zv) = vcells zv := by simp [arep]
  simp only [afill, harep, Option.map_eq_some_iff]
  rw [if_neg (by rw [hl, hzl, hz']; simp)]
  have : splice (vcells zv) (0 * (z' + 1)) (vcells v) = vcells v := by
    unfold splice
    simp [hl, hzl]
  simp only [this]
  exact ⟨_, rfl, rfl⟩
/-- New memory beside what was. -/
structure Ext (E : Env) (G : Mem) (h : Heap) (G' : Mem) (h' : Heap) : Prop where
  sub : Sub G G'
  frz : Frz E G' h'
  new : ∀ b c, G' b = some c → G b = some c ∨ h.next ≤ b
  keep : Keep h h'
  wf : WF E h'
theorem Ext.same {E : Env} {G : Mem} {h h' : Heap} (hG : Frz E G h) (k : Keep h h') (w : WF E h') : Ext E G h G h' := ⟨Sub.refl _, hG.keep k, fun b c x => .inl x, k, w⟩
/-- A list that was made stays. -/
theorem Own.freeze {E : Env} {G : Mem} {h h' : Heap} {e z lo n : Nat} {cs : List Value} {v : Value} (hW : WF E h) (hG : Frz E G h) (hl : h.next ≤ lo) (k : Keep h h') (hw : WF E h') (H : Own h' e z lo n cs v) : ∃ G', Sl E G' z n cs v ∧ Ext E G h G' h' := by
  have hlt : ∀ b c, G b = some c → b < h.next := fun b c hb => by
    obtain ⟨e', fx, hh⟩ := hG b c hb
    exact (hW.live _ _ hh).2
  rcases H with ⟨rfl, rfl, rfl⟩ | ⟨b, cap, rest, fx, rfl, hg, hc1, hc2, hc3, hc4, hc5⟩
  · exact ⟨G, ⟨none, 0, rfl, by omega, by omega, ⟨fun _ => rfl, fun _ x => (by cases x)⟩, .inl ⟨rfl, rfl⟩⟩, Ext.same hG k hw⟩
  · refine ⟨fun j => if j = b then some (cs ++ rest) else G j, ⟨some ⟨b, 0, none⟩, cap, rfl, hc3, hc5, ⟨fun x => (by cases x), fun b' e => .inr ⟨cs ++ rest, by injection e with e; subst e; simp⟩⟩, .inr ⟨_, rfl, ?_⟩⟩, ?_, ?_, ?_, k, hw⟩
    · unfold gcells
      rw [if_neg (by have := hw.nlt hg; simpa using this)]
      simp only [if_true]
      rw [if_pos (by simp [hc1])]
      simp [← hc1]
    · intro j c hj
      show (if j = b then some (cs ++ rest) else G j) = some c
      rw [if_neg (by have := hlt j c hj; omega)]; exact hj
    · intro j c hj
      replace hj : (if j = b then some (cs ++ rest) else G j) = some c := hj
      split at hj
      · rename_i e1; subst e1; injection hj with hj; subst hj; exact ⟨_, _, hg⟩
      · exact hG.keep k j c hj
    · intro j c hj
      replace hj : (if j = b then some (cs ++ rest) else G j) = some c := hj
      split at hj
      · rename_i e1; right; omega
      · exact .inl hj
theorem kif_bool {E : Env} {x y : XCont → Cont} {Q : XCont} {tm : Tr Value} {h : Heap} {p : Bool} (h1 : p = true → x Q tm h) (h2 : p = false → y Q tm h) : kif E (.bool p) x y Q tm h := kif_split h1 h2
theorem wpc_loop {E : Env} {b : Code} {Q : XCont} {tm : Tr Value} {h : Heap} (I : Nat → Cont) (n : Nat) (h0 : I n tm h) (h1 : ∀ n tm h, I n tm h → wpc E b (kloop I n Q) tm h) : wpc E (.loop b) Q tm h := ⟨I, n, h0, h1⟩
/-- An element of a frozen list. -/
theorem Sl.elem {E : Env} {G : Mem} {h : Heap} (hG : Frz E G h) {z n : Nat} {cs : List Value} {v : Value} (H : Sl E G z n cs v) {i : Nat} (hi : i < n) : ∃ a c, v = .slice (some a) n c ∧ a.spot = none ∧ acells E h ⟨a.block, a.off + i * z, none⟩ z = some ((cs.drop (i * z)).take z) := by
  obtain ⟨a, c, rfl, _, _, _, h5⟩ := H
  rcases h5 with ⟨h5, _⟩ | ⟨b, rfl, h6⟩
  · omega
  · refine ⟨b, c, rfl, (gcells_len h6).2, gcells_acells hG (gcells_part h6 ?_)⟩
    calc i * z + z = (i + 1) * z := by rw [Nat.add_mul]; omega
      _ ≤ n * z := Nat.mul_le_mul_right _ hi
theorem Rep.cells {E : Env} {G : Mem} {V : Vl} {c : List Value} (h : Rep E G V c) : ∃ sl sf cl cf, c = [.int .i64 V.k, .int .i64 V.n, .string V.s, sl, sf] ∧ Sl E G 5 V.l.length cl sl ∧ Sl E G 6 V.f.length cf sf ∧ RepLs E G V.l cl ∧ RepFs E G V.f cf ∧
      (V.s.size ≤ 140737488355328 ∧ V.l.length * 80 ≤ 140737488355328 ∧ V.f.length * 96 ≤ 140737488355328) ∧ (-9223372036854775808 ≤ V.k ∧ V.k ≤ 9223372036854775807) ∧ (-9223372036854775808 ≤ V.n ∧ V.n ≤ 9223372036854775807) := by
  cases V with | mk k n s l f =>
  unfold Rep at h
  exact h
theorem Sl.slice {E : Env} {G : Mem} {z n : Nat} {cs : List Value} {v : Value} (H : Sl E G z n cs v) : ∃ a c, v = .slice a n c ∧ n ≤ c ∧ c ≤ 9223372036854775807 := by
  obtain ⟨a, c, rfl, h1, h2, _⟩ := H
  exact ⟨a, c, rfl, h1, h2⟩
theorem RepLs.app {E : Env} {G : Mem} : ∀ {l l' : List Vl} {c c' : List Value}, RepLs E G l c → RepLs E G l' c' → RepLs E G (l ++ l') (c ++ c')
  | [], l', c, c', h, h' => by unfold RepLs at h; subst h; simpa using h'
  | v :: l, l', c, c', h, h' => by
    unfold RepLs at h
    obtain ⟨c1, c2, rfl, h1, h2⟩ := h
    simp only [List.cons_append]
    unfold RepLs
    exact ⟨c1, c2 ++ c', by simp, h1, RepLs.app h2 h'⟩
theorem RepLs.one {E : Env} {G : Mem} {v : Vl} {c : List Value} (h : Rep E G v c) : RepLs E G [v] c := by
  unfold RepLs
  exact ⟨c, [], by simp, h, by unfold RepLs; rfl⟩
end Go.Tm
/- The logic, fifth part: cuts; small laws. -/
namespace Go.Tm
theorem wpop_mono {E : Env} {op : Op} {tm : Tr Value} {h : Heap} {K K' : Value → Heap → Prop} (H : wpop E op tm h K) (m : ∀ v h', K v h' → K' v h') : wpop E op tm h K' := by
  unfold wpop at H ⊢
  split at H
  · rename_i hk; obtain ⟨v, h1, h2⟩ := H; exact ⟨v, h1, m _ _ h2⟩
  · rename_i hk; obtain ⟨v, h1, h2⟩ := H; exact ⟨v, h1, m _ _ h2⟩
  · rename_i hk; obtain ⟨v, h1, h2⟩ := H; exact ⟨v, h1, m _ _ h2⟩
  · rename_i hk
    obtain ⟨r, h1, h2⟩ := H
    refine ⟨r, h1, ?_⟩
    cases r with
    | val v h' => exact m _ _ h2
    | enter f args => exact CallsTo.mono h2 m
theorem wpo_mono {E : Env} {O : List Oper} {Q Q' : Cont} (m : ∀ tm h, Q tm h → Q' tm h) : ∀ (l : List Oper) (tm : Tr Value) (h : Heap), wpo E O l Q tm h → wpo E O l Q' tm h
  | [], tm, h, H => m tm h H
  | o :: l, tm, h, H => by
    have ih := wpo_mono (E := E) (O := O) m l
    simp only [wpo] at H ⊢
    split at H
    · exact wpop_mono H fun v h' => ih _ _
    · exact ⟨fun a => wpop_mono (H.1 a) fun v h' => ih _ _, fun a => ih _ _ (H.2 a)⟩
/-- A cut behind some operations. -/
theorem wpo_cut {E : Env} {O l : List Oper} {Q : Cont} {tm : Tr Value} {h : Heap} (P : Cont) (m : ∀ tm h, P tm h → Q tm h) (H : wpo E O l P tm h) : wpo E O l Q tm h := wpo_mono m l tm h H
theorem wpt_mono {E : Env} {O : List Oper} {Q Q' : List St → Prop} (m : ∀ tr, Q tr → Q' tr) : ∀ (l : List Oper) (tr : List St) (tm : Tr Value) (h : Heap), wpt E O l tr Q tm h → wpt E O l tr Q' tm h
  | [], tr, tm, h, H => m _ H
  | o :: l, tr, tm, h, H => by
    have ih := wpt_mono (E := E) (O := O) m l
    simp only [wpt] at H ⊢
    split at H
    · exact wpop_mono H fun v h' => ih _ _ _
    · exact ⟨fun a => wpop_mono (H.1 a) fun v h' => ih _ _ _, fun a => ih _ _ _ (H.2 a)⟩
theorem wdraw_mono {E : Env} {O : List Oper} {Q Q' : Cont} (m : ∀ tm h, Q tm h → Q' tm h) {tm : Tr Value} {h : Heap} (H : wdraw E O Q tm h) : wdraw E O Q' tm h := by
  rcases H with ⟨a, b⟩ | H
  · exact .inl ⟨a, wpo_mono m _ _ _ b⟩
  · exact .inr (wpt_mono (fun tr ht => ⟨ht.1, m _ _ ht.2⟩) _ _ _ _ H)
theorem wpc_mono {E : Env} : ∀ (c : Code) {Q Q' : XCont}, (∀ e tm h, Q e tm h → Q' e tm h) → ∀ (tm : Tr Value) (h : Heap), wpc E c Q tm h → wpc E c Q' tm h := by
  intro c
  induction c with
  | skip => intro Q Q' m tm h H; exact m _ _ _ H
  | label l => intro Q Q' m tm h H; exact m _ _ _ H
  | ret => intro Q Q' m tm h H; exact m _ _ _ H
  | exit id => intro Q Q' m tm h H; exact m _ _ _ H
  | goto l => intro Q Q' m tm h H; exact m _ _ _ H
  | seq a b iha ihb =>
    intro Q Q' m tm h H
    refine iha ?_ tm h H
    intro e tm h he
    cases e with
    | normal => exact ihb m _ _ he
    | ret => exact m _ _ _ he
    | exit i => exact m _ _ _ he
    | goto l => exact m _ _ _ he
  | cond c x y ihx ihy =>
    intro Q Q' m tm h H
    simp only [wpc, kif] at H ⊢
    split at H
    · exact ihx m _ _ H
    · exact ihy m _ _ H
    · exact H.elim
  | block id b ih =>
    intro Q Q' m tm h H
    refine ih ?_ tm h H
    intro e tm h he
    cases e with
    | exit i =>
      simp only [kblock] at he ⊢
      split
      · rename_i hi; rw [if_pos hi] at he; exact m _ _ _ he
      · rename_i hi; rw [if_neg hi] at he; exact m _ _ _ he
    | normal => exact m _ _ _ he
    | ret => exact m _ _ _ he
    | goto l => exact m _ _ _ he
  | loop b ih =>
    intro Q Q' m tm h H
    obtain ⟨I, n, h0, h1⟩ := H
    refine ⟨I, n, h0, fun n tm h hI => ih ?_ tm h (h1 n tm h hI)⟩
    intro e tm h he
    cases e with
    | normal => exact he
    | exit i => exact m _ _ _ he
    | ret => exact m _ _ _ he
    | goto l => exact m _ _ _ he
  | scope b _ =>
    intro Q Q' m tm h H
    obtain ⟨I, n, h0, h1⟩ := H
    refine ⟨I, n, h0, fun n c tm h hI => (h1 n c tm h hI).mono ?_⟩
    intro e tm h he
    cases e with
    | normal => exact m _ _ _ he
    | exit i => exact m _ _ _ he
    | ret => exact m _ _ _ he
    | goto l => exact he
  | region id ops draw =>
    intro Q Q' m tm h H
    cases draw with
    | false => exact wpo_mono (m .normal) _ _ _ H
    | true => exact wdraw_mono (m .normal) H
  | rangeFunc g ps x y ihx ihy =>
    intro Q Q' m tm h H
    obtain ⟨hfl, it, p, hai, hps, I, n, h0, hI⟩ := H
    refine ⟨hfl, it, p, hai, hps, I, n, h0, fun n i h hh => ?_⟩
    obtain ⟨o, ho, hk⟩ := hI n i h hh
    refine ⟨o, ho, ?_⟩
    cases o with
    | none => exact m _ _ _ hk
    | some v =>
      refine ihx ?_ _ _ hk
      intro e tm1 h1 he
      cases e with
      | normal =>
        refine ihy ?_ _ _ he
        intro e2 tm2 h2 he2
        cases e2 with
        | normal => exact he2
        | ret => exact m _ _ _ he2
        | exit i => exact m _ _ _ he2
        | goto l => exact m _ _ _ he2
      | ret => exact he.elim
      | exit i => exact he.elim
      | goto l => exact he.elim
  | refuse _ => intro Q Q' m tm h H; exact H.elim
theorem kguard_cut {E : Env} {O l : List Oper} {op : Op} {d : Option Nat} {v : Value} {want : Bool} {Q : Cont} {tm : Tr Value} {h : Heap} (P : Cont) (m : ∀ tm h, P tm h → Q tm h) (H : kguard v want (wop1 E op d (wpo E O l P)) (wskip d (wpo E O l P)) tm h) : kguard v want (wop1 E op d (wpo E O l Q)) (wskip d (wpo E O l Q)) tm h := by
  unfold kguard at H ⊢
  split at H
  · exact ⟨fun a => wpop_mono (H.1 a) fun v h' => wpo_mono m l _ _, fun a => wpo_mono m l _ _ (H.2 a)⟩
  · exact wpo_mono m l _ _ H
/-- A cut behind some code. -/
theorem wpc_cut {E : Env} {c : Code} {Q : XCont} {tm : Tr Value} {h : Heap} (P : XCont) (m : ∀ e tm h, P e tm h → Q e tm h) (H : wpc E c P tm h) : wpc E c Q tm h := wpc_mono c m tm h H
/-- A cut behind some code that ends at its end alone. -/
theorem wpc_cutN {E : Env} {c : Code} {Q : XCont} {tm : Tr Value} {h : Heap} (P : Cont) (m : ∀ tm h, P tm h → Q .normal tm h) (H : wpc E c (fun e tm h => e = .normal ∧ P tm h) tm h) : wpc E c Q tm h :=
  wpc_cut _ (fun e tm h he => by obtain ⟨rfl, hp⟩ := he; exact m _ _ hp) H

theorem wr64 {x : Int} (h1 : -9223372036854775808 ≤ x) (h2 : x ≤ 9223372036854775807) : IntKind.i64.wrap x = x := Go.IntWalk.i64_in x ⟨h1, h2⟩
theorem wru64 {x : Int} (h1 : 0 ≤ x) (h2 : x ≤ 18446744073709551615) : IntKind.u64.wrap x = x := Go.IntWalk.u64_in x ⟨h1, h2⟩
theorem shr_nat {m b : Nat} (hb : b ≤ 64) : (m : Int).fdiv (2 ^ min (b : Int).toNat IntKind.u64.bits) = ((m / 2 ^ b : Nat) : Int) := by
  have : min (b : Int).toNat IntKind.u64.bits = b := by simp [IntKind.bits]; omega
  rw [this, Int.fdiv_eq_ediv_of_nonneg _ (by exact_mod_cast Nat.zero_le _)]
  norm_cast
end Go.Tm
/- PLAIN VALUES: what is asked of them, in plain words. No program in sight. -/
namespace Go.Tm

/-- Names that rise. -/
def rise : List ByteArray → Bool
  | a :: b :: r => bslt a.data.toList b.data.toList && rise (b :: r)
  | _ => true

def formedV (v : Vl) : Bool :=
  !(decide (v.k < 1) || decide (v.k > 6) || (v.k == 2 && v.n != 0 && v.n != 1)) &&
  !((v.k != 2 && v.k != 3 && v.n != 0) || (v.k != 4 && !(v.s.data.toList == []))) &&
  !((v.k != 5 && decide ((v.l.length : Int) > 0)) || (v.k != 6 && decide ((v.f.length : Int) > 0))) &&
  rise (v.f.map (·.1))

def vld (s : ByteArray) : Bool := Lib.validD s.data.toList
def spelledV (v : Vl) : Bool := vld v.s && v.f.all fun x => vld x.1
def fewV (v : Vl) : Bool := decide (v.l.length ≤ 32) && decide (v.f.length ≤ 32) && v.f.all fun x => !(x.1.data.toList == [] || decide (24 < x.1.size))

theorem attach_map {α β : Type} (l : List α) (f : α → β) : (l.attach.map fun x => f x.1) = l.map f := by
  have : (l.attach.map fun x => f x.1) = (l.attach.map Subtype.val).map f := by rw [List.map_map]; rfl
  rw [this, List.attach_map_subtype_val]
theorem attach_all {α : Type} (l : List α) (f : α → Bool) : (l.attach.all fun x => f x.1) = l.all f := by
  have : (l.attach.all fun x => f x.1) = (l.attach.map Subtype.val).all f := by rw [List.all_map]; rfl
  rw [this, List.attach_map_subtype_val]

/-- Of a value and of all within. -/
def allV (p : Vl → Bool) (v : Vl) : Bool := p v && v.parts.attach.all fun x => allV p x.1
termination_by v.sz
decreasing_by exact parts_sz x.2

theorem allV_eq (p : Vl → Bool) (v : Vl) : allV p v = (p v && v.parts.all (allV p)) := by
  rw [allV]
  rw [attach_all v.parts (allV p)]

def maxL : List Int → Int
  | [] => 0
  | x :: l => max x (maxL l)

def depthV (v : Vl) : Int := if v.k = 5 ∨ v.k = 6 then 1 + maxL (v.parts.attach.map fun x => depthV x.1) else 0
termination_by v.sz
decreasing_by exact parts_sz x.2

def digitsN (n : Nat) : Int := if n < 128 then 1 else 1 + digitsN (n / 128)
def turnedN (n : Int) : Nat := (if n < 0 then -2 * n - 1 else 2 * n).toNat

def headV (v : Vl) : Int :=
  1 + (if v.k = 2 then 1 else if v.k = 3 then digitsN (turnedN v.n) else if v.k = 4 then digitsN v.s.size + v.s.size else if v.k = 5 then digitsN v.l.length
    else if v.k = 6 then digitsN v.f.length + (v.f.map fun x => digitsN x.1.size + (x.1.size : Int)).sum else 0)
/-- How many bytes. -/
def sizeV (v : Vl) : Int := headV v + (v.parts.attach.map fun x => sizeV x.1).sum
termination_by v.sz
decreasing_by exact parts_sz x.2

theorem depthV_eq (v : Vl) : depthV v = if v.k = 5 ∨ v.k = 6 then 1 + maxL (v.parts.map depthV) else 0 := by
  rw [depthV]
  rw [attach_map v.parts depthV]
theorem sizeV_eq (v : Vl) : sizeV v = headV v + (v.parts.map sizeV).sum := by
  rw [sizeV]
  rw [attach_map v.parts sizeV]

def goodV (v : Vl) : Int :=
  if allV formedV v = false then 4 else if allV spelledV v = false then 11 else if allV fewV v = false then 15 else if depthV v > 8 then 3 else if sizeV v > 2048 then 2 else 0
end Go.Tm
/- The logic, sixth part: the rules by which a walk goes, as one set. -/
namespace Go.Tm
theorem kguard_splitF {b : Bool} {A B : Cont} {tm : Tr Value} {h : Heap} (h1 : b = false → A tm h) (h2 : b = true → B tm h) : kguard (.bool b) false A B tm h := ⟨h1, h2⟩
theorem kguard_splitT {b : Bool} {A B : Cont} {tm : Tr Value} {h : Heap} (h1 : b = true → A tm h) (h2 : b = false → B tm h) : kguard (.bool b) true A B tm h := ⟨h1, h2⟩
theorem kguard_undef {b : Bool} {A B : Cont} {tm : Tr Value} {h : Heap} : kguard undef b A B tm h = B tm h := by simp [kguard, undef]
theorem acells_part {E : Env} {h : Heap} {a : Addr} {n : Nat} {l : List Value} (hg : acells E h a n = some l) (i m : Nat) (hm : i + m ≤ n) : acells E h ⟨a.block, a.off + i, none⟩ m = some ((l.drop i).take m) := by
  have key : ∀ c : List Value, a.off + n ≤ c.length → (c.drop (a.off + i)).take m = (((c.drop a.off).take n).drop i).take m := by
    intro c hc
    rw [List.drop_take, List.drop_drop, List.take_take, Nat.min_eq_left (by omega)]
  unfold acells at hg ⊢
  split at hg
  · cases hg
  · split at hg
    · rename_i hb
      simp only [if_pos hb]
      split at hg
      · rename_i c e fr hro
        split at hg
        · rename_i hc
          injection hg with hg; subst hg
          have hk := key c.toList (by simpa using hc.1)
          rw [← List.map_drop, ← List.map_take, ← hk, if_pos]
          refine ⟨by omega, ?_⟩
          rw [hk, List.all_eq_true]
          intro v hv
          exact (List.all_eq_true.1 hc.2) v (List.mem_of_mem_drop (List.mem_of_mem_take hv))
        · cases hg
      · cases hg
    · rename_i hb
      simp only [if_neg hb]
      split at hg
      · rename_i c e fx hc
        split at hg
        · rename_i hle
          injection hg with hg; subst hg
          rw [if_pos (by omega), key c hle]
        · cases hg
      · cases hg
theorem all_not_any {α : Type} (l : List α) (p : α → Bool) : (!l.any fun x => !p x) = l.all p := by
  induction l with
  | nil => rfl
  | cons x l ih => simp only [List.any_cons, List.all_cons, Bool.not_or, Bool.not_not, ih]
theorem all_any_not {α : Type} (l : List α) (p : α → Bool) : (!l.any fun x => p x) = l.all fun x => !p x := by
  induction l with
  | nil => rfl
  | cons x l ih => simp only [List.any_cons, List.all_cons, Bool.not_or, ih]
theorem maxL_snoc (l : List Int) (x : Int) (h : 0 ≤ x) : maxL (l ++ [x]) = max (maxL l) x := by
  induction l with
  | nil => simp only [List.nil_append, maxL]; omega
  | cons y l ih => simp only [List.cons_append, maxL, ih]; omega
theorem fmax_max (x y : Int) : fmax x y = max x y := by unfold fmax; split <;> omega
theorem fmin_min (x y : Int) : fmin x y = min x y := by unfold fmin; split <;> omega
/-- Of a read that a region leaves unordered to something that writes or calls. -/
def pairOk (E : Env) (O : List Oper) (tr : List St) (d : St) (x y : Nat) : Prop :=
  match O[x]? with
  | some o => awanted O (sget tr d x).tm o = true → ∃ u, aread E (sget tr d x).h (opd (sget tr d x).tm) o.op = some u ∧ aread E (sget tr d y).h (opd (sget tr d x).tm) o.op = some u ∧ aread E (sget tr d (y + 1)).h (opd (sget tr d x).tm) o.op = some u ∧ veq u u = true
  | none => True
theorem wdraw_pairs {E : Env} {O : List Oper} {Q : Cont} {tm : Tr Value} {h : Heap} (prs : List (Nat × Nat)) (h1 : dstat E.P O (masks O []) none = true) (h2 : (match spOf E.P O (masks O []) with | none => true | some _ => false) = true) (h3 : unord E.P O (masks O []) = prs)
    (H : wpt E O O [] (fun tr => (∀ p, p ∈ prs → pairOk E O tr ⟨tm, h⟩ p.1 p.2) ∧ Q (sget tr ⟨tm, h⟩ O.length).tm (sget tr ⟨tm, h⟩ O.length).h) tm h) : wdraw E O Q tm h := by
  have hsp : spOf E.P O (masks O []) = none := by
    cases hx : spOf E.P O (masks O []) with
    | none => rfl
    | some p => simp [hx] at h2
  refine .inr (wpt_mono ?_ _ _ _ _ H)
  rintro tr ⟨hp, hq⟩
  refine ⟨?_, hq⟩
  unfold drawOk
  rw [hsp, h1]
  simp only [Bool.true_and, Bool.not_true, Bool.false_and, Bool.or_false]
  unfold ddyn
  simp only [Bool.and_true, List.all_eq_true]
  intro x hx y hy
  simp only [Bool.or_eq_true, Bool.not_eq_true']
  cases hb : (bef (masks O []) x.2 y.2 || bef (masks O []) y.2 x.2) with
  | true =>
    simp only [Bool.or_eq_true] at hb
    rcases hb with hb | hb
    · exact .inl hb
    · exact .inr (.inl hb)
  | false =>
    have hm : (x.2, y.2) ∈ prs := by
      rw [← h3]
      unfold unord
      rw [List.mem_flatMap]
      exact ⟨x, hx, List.mem_map.2 ⟨y, List.mem_filter.2 ⟨hy, by simp [hb]⟩, rfl⟩⟩
    have hpo := hp _ hm
    right; right
    cases ha : awanted O (sget tr ⟨tm, h⟩ x.2).tm x.1 with
    | false => exact .inl rfl
    | true =>
      right
      have hox : O[x.2]? = some x.1 := by
        have := (List.mem_filter.1 hx).1
        rw [← List.mk_mem_zipIdx_iff_getElem?]; exact this
      unfold pairOk at hpo
      simp only [hox] at hpo
      obtain ⟨u, e1, e2, e3, e4⟩ := hpo ha
      simp only [e1, e2, e3, e4, Bool.and_self]
section
variable {E : Env} {O l : List Oper} {tr : List St} {Q : List St → Prop} {tm : Tr Value} {h : Heap} {ty : TypeId} {pos : String} {aft : Array Edge}
theorem wpt_nil : wpt E O [] tr Q tm h = Q (tr ++ [⟨tm, h⟩]) := rfl
theorem wpt_cons {d : Option Nat} {op : Op} : wpt E O (⟨d, op, ty, pos, aft, none⟩ :: l) tr Q tm h = wop1 E op d (wpt E O l (tr ++ [⟨tm, h⟩]) Q) tm h := rfl
theorem wpt_guard {d : Option Nat} {op : Op} {j : Nat} {b : Bool} : wpt E O (⟨d, op, ty, pos, aft, some (j, b)⟩ :: l) tr Q tm h = kguard (gval O j tm) b (wop1 E op d (wpt E O l (tr ++ [⟨tm, h⟩]) Q)) (wskip d (wpt E O l (tr ++ [⟨tm, h⟩]) Q)) tm h := by
  simp only [wpt, kguard, awanted, gval, wop1, wskip]
  cases hj : (O[j]?).bind (·.dst) with
  | none => simp [undef]
  | some d' =>
    simp only
    cases hv : fget tm d' with
    | bool c => cases c <;> cases b <;> simp
    | _ => simp
end
theorem kif_cut {E : Env} {a b : Code} {v : Value} {Q : XCont} {tm : Tr Value} {h : Heap} (P : XCont) (m : ∀ e tm h, P e tm h → Q e tm h) (H : kif E v (wpc E a) (wpc E b) P tm h) : kif E v (wpc E a) (wpc E b) Q tm h := by
  unfold kif at H ⊢
  split at H
  · exact wpc_mono a m _ _ H
  · exact wpc_mono b m _ _ H
  · exact H.elim
theorem kif_cutN {E : Env} {a b : Code} {v : Value} {Q : XCont} {tm : Tr Value} {h : Heap} (P : Cont) (m : ∀ tm h, P tm h → Q .normal tm h) (H : kif E v (wpc E a) (wpc E b) (fun e tm h => e = .normal ∧ P tm h) tm h) : kif E v (wpc E a) (wpc E b) Q tm h :=
  kif_cut _ (fun e tm h he => by obtain ⟨rfl, hp⟩ := he; exact m _ _ hp) H
theorem awanted_none {O : List Oper} {tm : Tr Value} {d : Option Nat} {op : Op} {ty : TypeId} {pos : String} {aft : Array Edge} : awanted O tm ⟨d, op, ty, pos, aft, none⟩ = true := rfl
theorem aread_load {E : Env} {h : Heap} {ev : Operand → Value} {t : TypeId} {x : Operand} : aread E h ev (.load t x) = aload E h t (ev x) := rfl
theorem aread_lookup {E : Env} {h : Heap} {ev : Operand → Value} {t : TypeId} {x i : Operand} {ok : Bool} : aread E h ev (.lookup t x i ok) = alookup E h t (ev x) (ev i) ok := rfl
theorem veq_str {s : ByteArray} : veq (.string s) (.string s) = true := by simp [veq]
theorem veq_int {k : IntKind} {n : Int} : veq (.int k n) (.int k n) = true := by simp [veq]
theorem veq_bool {b : Bool} : veq (.bool b) (.bool b) = true := by simp [veq]
theorem veq_ptr {a : Option Addr} : veq (.pointer a) (.pointer a) = true := by cases a <;> simp [veq]
theorem veq_slice {a : Option Addr} {n c : Nat} : veq (.slice a n c) (.slice a n c) = true := by cases a <;> simp [veq]
theorem veq_agg {l : List Value} : veq (.agg ⟨l⟩) (.agg ⟨l⟩) = veqL l l := by simp [veq, veqA]
theorem veqL_nil : veqL [] [] = true := rfl
theorem veqL_cons {v w : Value} {l m : List Value} : veqL (v :: l) (w :: m) = (veq v w && veqL l m) := rfl
theorem sget_0 {s d : St} {l : List St} : sget (s :: l) d 0 = s := rfl
theorem sget_s {s d : St} {l : List St} {n : Nat} : sget (s :: l) d (n + 1) = sget l d n := by simp [sget]
theorem shr_nat' {m b : Nat} (hb : b ≤ 64) : (m : Int).fdiv (2 ^ min b IntKind.u64.bits) = ((m / 2 ^ b : Nat) : Int) := shr_nat (m := m) hb
attribute [push_cast] wpc_draw wpc_seq wpc_cond wpc_region wpc_ret wpc_exit wpc_skip wpc_goto kseq_normal kseq_ret kseq_exit kseq_goto kblock_normal kblock_ret kblock_exit kblock_goto kif_true kif_false kloop_normal kloop_ret kloop_exit kloop_goto kscope_normal kscope_ret kscope_exit kscope_goto wpo_nil wpo_cons wpo_guard kguard_tt kguard_ff kguard_tf kguard_ft gval kput_some kput_none wskip_some wskip_none aput fget_set_lit opd_tmp opd_const opd_func opd_global wop_move wop_assign wop_pick wop_nilCheck wop_binOp wop_unOp wop_makeInterface wop_makeFunc wop_build wop_slice wop_fieldAddr wop_field wop_indexAddr wop_index wop_extract wop_load wop_alloc wop_box wop_makeSlice wop_buildSlice wop_makeMap wop_range wop_next wop_append wop_copy wop_clear wop_mapUpdate wop_lookup wop_store wop_call wop_callv wop_max wop_min kpure_some kalloc_some kwr_some kwv_some kcall_func anilc apick aextract List.getElem?_cons_zero List.getElem?_cons_succ if_true if_false ite_true ite_false List.map_cons List.map_nil List.length_cons List.length_nil List.drop_succ_cons List.drop_zero List.take_succ_cons List.take_zero Option.bind_some Option.map_some Option.bind_none Option.map_none Option.some.injEq abin aint astr aun aconv next_push next_put get_push get_put acells vcells Nat.zero_add Nat.add_zero Bool.not_true Bool.not_false beq_self_eq_true bne_self_eq_false Bool.or_true Bool.or_false Bool.true_or Bool.false_or Bool.and_true Bool.and_false isConst kleave_ret kleave_normal aresults aret_one aret_none aret_two aret_three aret_four exists_eq_left' fget_leaf put_push put_put splice List.all_cons List.all_nil Value.oneCell' Bool.and_self and_self Nat.le_refl List.cons_append List.append_nil not_true_eq_false not_false_eq_true Nat.add_eq_left Nat.left_eq_add Nat.add_left_cancel_iff Bool.false_eq_true true_and and_true Nat.succ_ne_self ne_eq Option.map_eq_map afrom decide_true decide_false Int.toNat_natCast List.take_nil List.drop_nil List.nil_append kguard_undef Bool.true_and Bool.false_and amm afold fmax_max fmin_min wpt_nil wpt_cons wpt_guard sget_0 sget_s veq_str veq_int veq_bool veq_ptr veq_slice veq_agg veqL_nil veqL_cons awanted_none aread_load aread_lookup List.mem_cons List.not_mem_nil or_false forall_eq_or_imp forall_eq pairOk forall_const true_implies eq_self afill ne_eq not_true_eq_false false_or gt_iff_lt Nat.lt_irrefl Nat.mul_one
end Go.Tm
/- A region that draws its order, with new memory free of order (the second check). -/
namespace Go.Tm
def rdList (P : Program) (O : List Oper) (M : List Nat) : List (Nat × List Nat) := (O.zipIdx.filter fun x => isR P x.1).map fun x =>
  (x.2, (0 :: (((O.zipIdx.filter fun y => isF P y.1).filter fun e => !bef M x.2 e.2).map fun e => e.2 + 1)).filter fun p => !((O.zipIdx.filter fun y => isF P y.1).any fun e => bef M e.2 x.2 && !decide (e.2 < p)))
def faList (P : Program) (O : List Oper) : List Nat := (O.zipIdx.filter fun x => isF P x.1 || isA P x.1).map (·.2)
def aList (P : Program) (O : List Oper) (M : List Nat) : List (Nat × List Nat) := (O.zipIdx.filter fun x => isA P x.1).map fun x => (x.2, befs M x.2)
def dList (O : List Oper) (M : List Nat) : List (Nat × Nat × List Nat) := O.zipIdx.filterMap fun x => x.1.dst.map fun d => (x.2, d, x.2 :: befs M x.2)
def rdOk (E : Env) (O : List Oper) (tr : List St) (s : St) (q : Nat × List Nat) : Prop :=
  match O[q.1]? with
  | some o => awanted O (sget tr s q.1).tm o = true → ∀ p, p ∈ q.2 → ∃ u, aread E (sget tr s p).h (opd (sget tr s q.1).tm) o.op = some u ∧ aread E (sget tr s q.1).h (opd (sget tr s q.1).tm) o.op = some u ∧ veq u u = true
  | none => True
def faOk (O : List Oper) (tr : List St) (s : St) (i : Nat) : Prop :=
  match O[i]? with
  | some o => awanted O (sget tr s i).tm o = true → ∀ y, y ∈ o.op.operands.toList → sc (sget tr s i).h.next (opd (sget tr s i).tm y) = true
  | none => True
def aOk (E : Env) (O : List Oper) (tr : List St) (s : St) (q : Nat × List Nat) : Prop :=
  match O[q.1]? with
  | some o => awanted O (sget tr s q.1).tm o = true → ∃ p, aalloc E.P (opd (sget tr s q.1).tm) o.op = some p ∧ scOQb (live (sget tr s) q.2) p.2 = true
  | none => True
def dOk (tr : List St) (s : St) (q : Nat × Nat × List Nat) : Prop := scQ (live (sget tr s) q.2.2) (fget (sget tr s (q.1 + 1)).tm q.2.1) = true
theorem ix_get {O : List Oper} {x : Oper × Nat} (h : x ∈ O.zipIdx) : O[x.2]? = some x.1 := by
  rw [← List.mk_mem_zipIdx_iff_getElem?]; exact h
theorem wdraw_two {E : Env} {O : List Oper} {Q : Cont} {tm : Tr Value} {h : Heap} (RS : List (Nat × List Nat)) (FL : List Nat) (AS : List (Nat × List Nat)) (DS : List (Nat × Nat × List Nat)) (NS : List Nat)
    (h0 : dstat E.P O (masks O []) (spOf E.P O (masks O [])) = false) (h1 : dstat2 E.P O (masks O []) = true)
    (hR : rdList E.P O (masks O []) = RS) (hF : faList E.P O = FL) (hA : aList E.P O (masks O []) = AS) (hD : dList O (masks O []) = DS) (hN : O.zipIdx.map (·.2) = NS)
    (H : wpt E O O [] (fun tr => ((∀ i, i ∈ NS → (sget tr ⟨tm, h⟩ i).h.next ≤ (sget tr ⟨tm, h⟩ (i + 1)).h.next) ∧ (∀ q, q ∈ RS → rdOk E O tr ⟨tm, h⟩ q) ∧ (∀ i, i ∈ FL → faOk O tr ⟨tm, h⟩ i) ∧ (∀ q, q ∈ AS → aOk E O tr ⟨tm, h⟩ q) ∧ (∀ q, q ∈ DS → dOk tr ⟨tm, h⟩ q)) ∧
      Q (sget tr ⟨tm, h⟩ O.length).tm (sget tr ⟨tm, h⟩ O.length).h) tm h) : wdraw E O Q tm h := by
  refine .inr (wpt_mono ?_ _ _ _ _ H)
  rintro tr ⟨⟨hn, hr, hf, ha, hd⟩, hq⟩
  refine ⟨?_, hq⟩
  unfold drawOk
  rw [h0, h1]
  simp only [Bool.false_and, Bool.false_or, Bool.not_false, Bool.true_and]
  unfold ddyn2
  simp only [Bool.and_eq_true, List.all_eq_true]
  refine ⟨⟨⟨⟨?_, ?_⟩, ?_⟩, ?_⟩, ?_⟩
  · intro x hx
    have hm := (List.mem_filter.1 hx).1
    have := hr (x.2, _) (by rw [← hR]; exact List.mem_map.2 ⟨x, hx, rfl⟩)
    unfold rdOk at this
    simp only [ix_get hm] at this
    cases hw : awanted O (sget tr ⟨tm, h⟩ x.2).tm x.1 with
    | false => rfl
    | true =>
      simp only [Bool.not_true, Bool.false_or]
      unfold readsOk
      rw [List.all_eq_true]
      intro p hp
      cases hany : ((O.zipIdx.filter fun y => isF E.P y.1).any fun e => bef (masks O []) e.2 x.2 && !decide (e.2 < p)) with
      | true => rfl
      | false =>
        obtain ⟨u, e1, e2, e3⟩ := this hw p (List.mem_filter.2 ⟨hp, by rw [hany]; rfl⟩)
        simp only [e1, e2, e3, Bool.false_or]
  · intro x hx
    have := hn x.2 (by rw [← hN]; exact List.mem_map.2 ⟨x, hx, rfl⟩)
    simpa using this
  · intro x hx
    have hm := (List.mem_filter.1 hx).1
    have := hf x.2 (by rw [← hF]; exact List.mem_map.2 ⟨x, hx, rfl⟩)
    unfold faOk at this
    simp only [ix_get hm] at this
    cases hw : awanted O (sget tr ⟨tm, h⟩ x.2).tm x.1 with
    | false => rfl
    | true =>
      simp only [Bool.not_true, Bool.false_or]
      rw [List.all_eq_true]
      exact this hw
  · intro x hx
    cases hds : x.1.dst with
    | none => rfl
    | some d =>
      have := hd (x.2, d, x.2 :: befs (masks O []) x.2) (by rw [← hD]; exact List.mem_filterMap.2 ⟨x, hx, by rw [hds]; rfl⟩)
      exact this
  · intro x hx
    have hm := (List.mem_filter.1 hx).1
    have := ha (x.2, _) (by rw [← hA]; exact List.mem_map.2 ⟨x, hx, rfl⟩)
    unfold aOk at this
    simp only [ix_get hm] at this
    cases hw : awanted O (sget tr ⟨tm, h⟩ x.2).tm x.1 with
    | false => rfl
    | true =>
      simp only [Bool.not_true, Bool.false_or]
      obtain ⟨p, e1, e2⟩ := this hw
      simp only [e1, e2]
theorem aalloc_mk {P : Program} {ev : Operand → Value} {t : TypeId} {x y : Operand} : aalloc P ev (.makeSlice t x y) = amk P t (ev x) (ev y) := rfl
theorem aalloc_box {P : Program} {ev : Operand → Value} {e : TypeId} {x : Operand} : aalloc P ev (.box e x) = some (fun b => .pointer (some ⟨b, 0, none⟩), .cells (vcells (ev x)) e true) := rfl
theorem scO_rep {q : Nat → Bool} {n : Nat} {k : IntKind} {i : Int} {e : TypeId} {fx : Bool} : scOQb q (.cells (arep n [.int k i]) e fx) = true := by
  simp only [scOQb, List.all_eq_true]
  intro v hv
  have := arep_mem hv
  simp at this; subst this; rfl
theorem scO_nil {q : Nat → Bool} {e : TypeId} {fx : Bool} : scOQb q (.cells [] e fx) = true := rfl
theorem scO_cons {q : Nat → Bool} {v : Value} {l : List Value} {e : TypeId} {fx : Bool} : scOQb q (.cells (v :: l) e fx) = (scQ q v && scOQb q (.cells l e fx)) := rfl
theorem live_at {c : Nat → St} {D : List Nat} {b : Nat} : live c D b = (decide (b < (c 0).h.next) || D.any fun k => inSpan c k b) := rfl
end Go.Tm
/- A slice of two, just laid. -/
namespace Go.Tm
theorem buildSlice_two {E : Env} {t e by_ : Nat} (T : Elem E t e 1 by_) {v w : Value} (hl : (vcells v).length = 1) (hl2 : (vcells w).length = 1) : abs1 E.P t 2 [(0, v), (1, w)] = some (fun b => .slice (some ⟨b, 0, none⟩) 2 2, .cells (vcells v ++ vcells w) e true) := by
  obtain ⟨i, hi, hiz⟩ : ∃ i, E.P.info? e = some i ∧ (i.size, i.bytes) = (1, by_) := by
    have := T.info
    rw [Option.map_eq_some_iff] at this
    exact this
  injection hiz with hz1 hz2
  subst hz2
  obtain ⟨zv, hzv, hzl⟩ := T.zero
  obtain ⟨v0, hv0⟩ := List.length_eq_one_iff.1 hl
  obtain ⟨w0, hw0⟩ := List.length_eq_one_iff.1 hl2
  obtain ⟨z0, hz0⟩ := List.length_eq_one_iff.1 hzl
  have hs : asz E.P e = some 1 := by simp [asz, hi, hz1]
  simp only [abs1, T.und, hs, hzv]
  rw [if_pos ⟨by omega, by rw [hzl]⟩]
  simp [afill, hv0, hw0, hz0, arep, splice]
theorem kwv_own2 {E : Env} {h : Heap} {t e e' z by_ lo n : Nat} {cs xs : List Value} {v : Value} {d : Option Nat} {R : Cont} {tm : Tr Value} (T : Elem E t e z by_) (hW : WF E h) (hlo : lo ≤ h.next) (H : Own h e z lo n cs v)
    (hl : xs.length = 2 * z) (ho : xs.all Value.oneCell' = true) (hb : (n + 2) * by_ ≤ 140737488355328) (hn : n + 2 ≤ 9223372036854775807)
    (K : ∀ v' h', Own h' e z lo (n + 2) (cs ++ xs) v' → KeepLo lo h h' → WF E h' → R (aput tm d v') h') : kwv (aappend E (h.push (.cells xs e' true)) t t v (.slice (some ⟨h.next, 0, none⟩) 2 2)) d R tm (h.push (.cells xs e' true)) := by
  refine kwv_own (m := 2) (xs := xs) T (hW.push _) (lo := lo) (by simp; omega) (H.keep ((Keep.refl h).push hW)) rfl (by omega) ?_ hl ho hb hn ?_
  · have hz := T.pos
    simp only [asrc]
    rw [if_neg (by omega)]
    unfold acells
    simp only [hW.nb0, if_false, get_push, if_true, Nat.zero_add]
    rw [if_pos (by omega), List.drop_zero, List.take_of_length_le (by omega)]
  · intro v' h' a b c
    exact K v' h' a ((((KeepLo.refl lo h).push (o := .cells xs e' true) hlo)).trans b) c
end Go.Tm
namespace Go.Tm
theorem sl_cut {E : Env} {P : Program} {G : Mem} {t e : TypeId} (hu : P.underlying t = some (.slice e)) (hz : asz P e = some 1) {n : Nat} {cs : List Value} {v : Value} (hs : Sl E G 1 n cs v) {lo hi : Option Value} {l h : Nat}
    (hh : ∀ c, n ≤ c → abnd hi n c = some h) (hl : abnd lo 0 h = some l) (hlh : l ≤ h) (hhn : h ≤ n) (hsp : ∀ a c, v = .slice (some a) n c → a.spot = none) :
    ∃ y, asl P t v lo hi = some y ∧ Sl E G 1 (h - l) ((cs.drop l).take (h - l)) y := by
  obtain ⟨a, c, rfl, h1, h2, h3, h4⟩ := hs
  unfold asl
  rw [hu]
  simp only [hh c h1, hl, hz]
  cases a with
  | none =>
    have hc0 := h3.1 rfl
    subst hc0
    have hn0 : n = 0 := by omega
    subst hn0
    have : h - l = 0 := by omega
    rw [this]
    exact ⟨_, rfl, _, _, rfl, by omega, by omega, ⟨fun _ => by omega, fun _ x => (by cases x)⟩, .inl ⟨rfl, by simp⟩⟩
  | some a =>
    have hsp' := hsp a c rfl
    simp only [hsp']
    by_cases hc : l < c
    · rw [if_pos hc]
      refine ⟨_, rfl, _, _, rfl, by omega, by omega, ⟨fun x => (by cases x), fun b e => ?_⟩, ?_⟩
      · injection e with e; subst e; exact h3.2 a rfl
      · rcases h4 with ⟨h5, h6⟩ | ⟨b, h5, h6⟩
        · left; subst h6; exact ⟨by omega, by simp⟩
        · injection h5 with h5; subst h5
          right
          refine ⟨_, rfl, ?_⟩
          have := gcells_part h6 (i := l) (m := (h - l) * 1) (by omega)
          simp only [addo, Nat.mul_one] at this ⊢
          exact this
    · rw [if_neg hc, if_pos (by omega)]
      have : h - l = 0 := by omega
      rw [this]
      refine ⟨_, rfl, _, _, rfl, by omega, by omega, ⟨fun x => (by cases x), fun b e => ?_⟩, .inl ⟨rfl, by simp⟩⟩
      injection e with e; subst e; exact h3.2 a rfl
end Go.Tm
