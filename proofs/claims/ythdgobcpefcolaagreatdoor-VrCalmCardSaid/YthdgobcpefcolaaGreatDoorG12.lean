/- Memory that stays but for some blocks. -/
/- Merged by a program of ours: L10 X0 M0 L11 L12. -/
import Derived.Test.YthdgobcpefcolaaGreatDoorG11
import Derived.Test.YthdgobcpefcolaaGreatDoorG09
import GoSem.ClaimJoined
set_option maxRecDepth 10000
set_option linter.all false
set_option linter.unusedSimpArgs false
set_option linter.unusedVariables false
/- A region that draws its order, two stores at its end in either order. -/
namespace Go.Tm
def spOk (O : List Oper) (tr : List St) (d : St) (y z : Nat) : Prop :=
  match O[y]?, O[z]? with
  | some oy, some oz => ostep (sget tr d) oy oz y z = true
  | _, _ => False
theorem wdraw_sp {E : Env} {O : List Oper} {Q : Cont} {tm : Tr Value} {h : Heap} (prs : List (Nat × Nat)) (y z : Nat) (h2 : spOf E.P O (masks O []) = some (y, z)) (h1 : dstat E.P O (masks O []) (some (y, z)) = true) (h3 : unord E.P O (masks O []) = prs)
    (H : wpt E O O [] (fun tr => ((∀ p, p ∈ prs → pairOk E O tr ⟨tm, h⟩ p.1 p.2) ∧ spOk O tr ⟨tm, h⟩ y z) ∧ Q (sget tr ⟨tm, h⟩ O.length).tm (sget tr ⟨tm, h⟩ O.length).h) tm h) : wdraw E O Q tm h := by
  refine .inr (wpt_mono ?_ _ _ _ _ H)
  rintro tr ⟨⟨hp, hs⟩, hq⟩
  refine ⟨?_, hq⟩
  unfold drawOk
  rw [h2, h1]
  simp only [Bool.true_and, Bool.not_true, Bool.false_and, Bool.or_false]
  unfold ddyn
  rw [Bool.and_eq_true]
  constructor
  · simp only [List.all_eq_true]
    intro x hx y hy
    simp only [Bool.or_eq_true, Bool.not_eq_true']
    cases hb : (bef (masks O []) x.2 y.2 || bef (masks O []) y.2 x.2) with
    | true =>
      simp only [Bool.or_eq_true] at hb
      rcases hb with hb | hb
      · exact .inl hb
      · exact .inr (.inl hb)
    | false =>
      have hm : (x.2, y.2) ∈ prs := by
        rw [← h3]
        unfold unord
        rw [List.mem_flatMap]
        exact ⟨x, hx, List.mem_map.2 ⟨y, List.mem_filter.2 ⟨hy, by simp [hb]⟩, rfl⟩⟩
      have hpo := hp _ hm
      right; right
      cases ha : awanted O (sget tr ⟨tm, h⟩ x.2).tm x.1 with
      | false => exact .inl rfl
      | true =>
        right
        have hox : O[x.2]? = some x.1 := by
          have := (List.mem_filter.1 hx).1
          rw [← List.mk_mem_zipIdx_iff_getElem?]; exact this
        unfold pairOk at hpo
        simp only [hox] at hpo
        obtain ⟨u, e1, e2, e3, e4⟩ := hpo ha
        simp only [e1, e2, e3, e4, Bool.and_self]
  · unfold spOk at hs
    simp only
    split at hs
    · rename_i h1 h2; simp only [h1, h2]; exact hs
    · exact hs.elim

/- Scopes: labels by their number. -/
def kgoto (J : Nat → Nat → Cont) (n : Nat) (Q : XCont) : XCont := fun e tm h =>
  match e with
  | .goto l => ∃ m, m < n ∧ J l m tm h
  | e => Q e tm h
section
variable {J : Nat → Nat → Cont} {n : Nat} {Q : XCont} {tm : Tr Value} {h : Heap}
theorem kgoto_goto {l : Nat} : kgoto J n Q (.goto l) tm h = ∃ m, m < n ∧ J l m tm h := rfl
theorem kgoto_normal : kgoto J n Q .normal tm h = Q .normal tm h := rfl
theorem kgoto_ret : kgoto J n Q .ret tm h = Q .ret tm h := rfl
theorem kgoto_exit {i : Nat} : kgoto J n Q (.exit i) tm h = Q (.exit i) tm h := rfl
end
theorem kgoto_mono {J : Nat → Nat → Cont} {n n' : Nat} {Q : XCont} (h : n ≤ n') : ∀ e tm h', kgoto J n Q e tm h' → kgoto J n' Q e tm h' := by
  intro e tm h' H
  cases e with
  | goto l => obtain ⟨m, h1, h2⟩ := H; exact ⟨m, by omega, h2⟩
  | normal => exact H
  | ret => exact H
  | exit i => exact H
theorem wpc_scope {E : Env} {b : Code} {Q : XCont} {tm : Tr Value} {h : Heap} (J : Nat → Nat → Cont) (N : Nat) (h0 : wpc E b (kgoto J N Q) tm h) (hl : ∀ l n tm h, J l n tm h → ∃ c, findLabel b l = some c ∧ wpc E c (kgoto J n Q) tm h) : wpc E (.scope b) Q tm h := by
  refine ⟨fun n c tm h => wpc E c (kgoto J n Q) tm h, N, h0, ?_⟩
  intro n c tm h H
  refine (wpc_runs c _ tm h H).mono ?_
  intro e tm h he
  cases e with
  | goto l =>
    obtain ⟨m, h1, h2⟩ := he
    obtain ⟨c', h3, h4⟩ := hl l m tm h h2
    exact ⟨m, c', h1, h3, h4⟩
  | normal => exact he
  | ret => exact he
  | exit i => exact he
/- Lists of one's own, beside others. -/
def slB : Value → List Nat
  | .slice (some a) _ _ => [a.block]
  | _ => []
theorem append_blk {E : Env} {h h' : Heap} {t e z by_ lo n m : Nat} {cs xs : List Value} {v x v' : Value} (T : Elem E t e z by_) (hW : WF E h) (H : Own h e z lo n cs v) (hm : alenOf x = some m) (h0 : 0 < m) (hx : asrc E h z x m = some xs)
    (ha : aappend E h t t v x = some (v', h')) : ∀ b, b ∈ slB v' → b ∈ slB v ∨ h.next ≤ b := by
  obtain ⟨i, hi, hiz⟩ : ∃ i, E.P.info? e = some i ∧ (i.size, i.bytes) = (z, by_) := by
    have := T.info
    rw [Option.map_eq_some_iff] at this
    exact this
  injection hiz with hz1 hz2
  subst hz1; subst hz2
  have main : ∀ base sCap, v = .slice base n sCap → aappend E h t t v x = aappendE E h e i base n sCap m x := by
    intro base sCap hv
    subst hv
    simp only [aappend, T.und, hm, isIntD, Bool.false_eq_true, if_false, hi]
  have grow : ∀ base sCap, agrow E h e i base n sCap m xs = some (v', h') → ∀ b, b ∈ slB v' → h.next ≤ b := by
    intro base sCap hg
    unfold agrow at hg
    split at hg
    · split at hg
      · cases hg
      · split at hg
        · cases base with
          | none =>
            simp only at hg
            split at hg
            · injection hg with hg
              injection hg with hg _
              subst hg
              intro b hb
              simp only [slB, anew, List.mem_singleton] at hb; omega
            · cases hg
          | some a =>
            simp only at hg
            split at hg
            · split at hg
              · split at hg
                · injection hg with hg
                  injection hg with hg _
                  subst hg
                  intro b hb
                  simp only [slB, anew, List.mem_singleton] at hb; omega
                · injection hg with hg
                  injection hg with hg _
                  subst hg
                  intro b hb
                  simp only [slB, anew, List.mem_singleton] at hb; omega
              · cases hg
            · cases hg
        · cases hg
    · cases hg
  have hs : ∃ base sCap, v = .slice base n sCap := by
    rcases H with ⟨rfl, rfl, rfl⟩ | ⟨b, cap, rest, fx, rfl, _⟩
    · exact ⟨_, _, rfl⟩
    · exact ⟨_, _, rfl⟩
  obtain ⟨base, sCap, rfl⟩ := hs
  rw [main _ _ rfl] at ha
  unfold aappendE at ha
  rw [if_neg (by omega)] at ha
  simp only [hx] at ha
  split at ha
  · cases base with
    | none => cases ha
    | some a =>
      simp only at ha
      split at ha
      · cases ha
      · simp only [Option.map_eq_some_iff] at ha
        obtain ⟨h2, _, e⟩ := ha
        injection e with e _
        subst e
        intro b hb; left; exact hb
  · intro b hb; right; exact grow _ _ ha b hb
theorem kwv_app1 {E : Env} {h : Heap} {t e e' z by_ lo n : Nat} {cs xs : List Value} {v : Value} {d : Option Nat} {R : Cont} {tm : Tr Value} (T : Elem E t e z by_) (hW : WF E h) (hlo : lo ≤ h.next) (H : Own h e z lo n cs v)
    (hl : xs.length = z) (ho : xs.all Value.oneCell' = true) (hb : (n + 1) * by_ ≤ 140737488355328) (hn : n + 1 ≤ 9223372036854775807)
    (K : ∀ v' h', Own h' e z lo (n + 1) (cs ++ xs) v' → (∀ b o, h.get b = some o → b ∉ slB v → h'.get b = some o) → (∀ b, b ∈ slB v' → b ∈ slB v ∨ h.next ≤ b) → h.next ≤ h'.next → WF E h' → R (aput tm d v') h') : kwv (aappend E (h.push (.cells xs e' true)) t t v (.slice (some ⟨h.next, 0, none⟩) 1 1)) d R tm (h.push (.cells xs e' true)) := by
  have hz := T.pos
  have hx : asrc E (h.push (.cells xs e' true)) z (.slice (some ⟨h.next, 0, none⟩) 1 1) 1 = some xs := by
    simp only [asrc, Nat.one_mul]
    rw [if_neg (by omega)]
    unfold acells
    simp only [hW.nb0, if_false, get_push, if_true, Nat.zero_add]
    rw [if_pos (by omega), List.drop_zero, List.take_of_length_le (by omega)]
  have kp := (Keep.refl h).push (o := .cells xs e' true) hW
  obtain ⟨v', h', e1, e2, e3, e4, e5⟩ := append_own (m := 1) (xs := xs) T (hW.push _) (lo := lo) (by simp; omega) (H.keep kp) rfl (by omega) hx (by omega) ho hb hn
  refine ⟨(v', h'), e1, K v' h' e2 ?_ ?_ ?_ e4⟩
  · intro b o hb hn
    refine e5 b o (kp.get _ _ hb) ?_
    intro c a k hv he
    subst hv
    exact hn (by simp [slB, he])
  · intro b hb
    rcases append_blk T (hW.push _) (H.keep kp) rfl (by omega) hx e1 b hb with h1 | h1
    · exact .inl h1
    · right; simp at h1; omega
  · have := e3.next; simp at this; omega
/-- The last element set. -/
theorem Own.last {E : Env} {h : Heap} {e z lo n : Nat} {cs xs ys : List Value} {v : Value} (hW : WF E h) (H : Own h e z lo (n + 1) (cs ++ xs) v) (hc : cs.length = n * z) (hy : ys.length = z) (ho : ys.all Value.oneCell' = true) :
    ∃ b cap h', v = .slice (some ⟨b, 0, none⟩) (n + 1) cap ∧ n + 1 ≤ cap ∧ awrite h ⟨b, n * z, none⟩ ys = some h' ∧ Own h' e z lo (n + 1) (cs ++ ys) v ∧ (∀ j o, j ≠ b → h.get j = some o → h'.get j = some o) ∧ h'.next = h.next ∧ WF E h' := by
  rcases H with ⟨_, h1, _⟩ | ⟨b, cap, rest, fx, rfl, hg, h1, h2, h3, h4, h5⟩
  · omega
  · have hx : xs.length = z := by
      have : (n + 1) * z = n * z + z := by rw [Nat.add_mul]; omega
      simp at h1; omega
    refine ⟨b, cap, h.put b (.cells ((cs ++ ys) ++ rest) e fx), rfl, h3, ?_, .inr ⟨b, cap, rest, fx, rfl, by rw [get_put, if_pos rfl], by simp [hc, hy, Nat.add_mul], h2, h3, h4, h5⟩, ?_, rfl, hW.put hg⟩
    · simp only [awrite, hg]
      rw [if_pos ⟨by simp [hc, hx, hy], ho⟩]
      have : splice (cs ++ xs ++ rest) (n * z) ys = cs ++ ys ++ rest := by
        unfold splice
        rw [← hc, List.append_assoc cs xs rest, List.take_left, List.drop_length_add_append, hy, ← hx, List.drop_left]
      rw [this]
    · intro j o hj hgj
      rw [get_put, if_neg (by omega)]; exact hgj
/-- A list of one's own is left as it is from now on. -/
theorem Own.add {E : Env} {G : Mem} {h : Heap} {e z lo n : Nat} {cs : List Value} {v : Value} (hW : WF E h) (hG : Frz E G h) (H : Own h e z lo n cs v) (hb : ∀ b, b ∈ slB v → G b = none) :
    ∃ G', Sl E G' z n cs v ∧ Sub G G' ∧ Frz E G' h ∧ ∀ b c, G' b = some c → G b = some c ∨ (b ∈ slB v ∧ lo ≤ b) := by
  rcases H with ⟨rfl, rfl, rfl⟩ | ⟨b, cap, rest, fx, rfl, hg, hc1, hc2, hc3, hc4, hc5⟩
  · exact ⟨G, ⟨none, 0, rfl, by omega, by omega, ⟨fun _ => rfl, fun _ x => (by cases x)⟩, .inl ⟨rfl, rfl⟩⟩, Sub.refl _, hG, fun b c h => .inl h⟩
  · have hGb : G b = none := hb b (by simp [slB])
    refine ⟨fun j => if j = b then some (cs ++ rest) else G j, ⟨some ⟨b, 0, none⟩, cap, rfl, hc3, hc5, ⟨fun x => (by cases x), fun b' e => .inr ⟨cs ++ rest, by injection e with e; subst e; simp⟩⟩, .inr ⟨_, rfl, ?_⟩⟩, ?_, ?_, ?_⟩
    · unfold gcells
      rw [if_neg (by have := hW.nlt hg; simpa using this)]
      simp only [if_true]
      rw [if_pos (by simp [hc1])]
      simp [← hc1]
    · intro j c hj
      show (if j = b then some (cs ++ rest) else G j) = some c
      rw [if_neg (by intro e; subst e; rw [hGb] at hj; cases hj)]; exact hj
    · intro j c hj
      replace hj : (if j = b then some (cs ++ rest) else G j) = some c := hj
      split at hj
      · rename_i e1; subst e1; injection hj with hj; subst hj; exact ⟨_, _, hg⟩
      · exact hG j c hj
    · intro j c hj
      replace hj : (if j = b then some (cs ++ rest) else G j) = some c := hj
      split at hj
      · rename_i e1; right; subst e1; exact ⟨by simp [slB], hc4⟩
      · exact .inl hj
theorem Own.lt {E : Env} {h : Heap} {e z lo n : Nat} {cs : List Value} {v : Value} (hW : WF E h) (H : Own h e z lo n cs v) : ∀ b, b ∈ slB v → lo ≤ b ∧ b < h.next := by
  rcases H with ⟨rfl, rfl, rfl⟩ | ⟨b, cap, rest, fx, rfl, hg, hc1, hc2, hc3, hc4, hc5⟩
  · intro b hb; simp [slB] at hb
  · intro j hj
    simp only [slB, List.mem_singleton] at hj; subst hj
    exact ⟨hc4, (hW.live _ _ hg).2⟩
theorem Own.but {h h' : Heap} {e z lo n : Nat} {cs : List Value} {v : Value} (H : Own h e z lo n cs v) (k : ∀ b o, b ∈ slB v → h.get b = some o → h'.get b = some o) : Own h' e z lo n cs v := by
  rcases H with H | ⟨b, cap, rest, fx, rfl, h2, h3⟩
  · exact .inl H
  · exact .inr ⟨b, cap, rest, fx, rfl, k _ _ (by simp [slB]) h2, h3⟩
theorem Frz.but {E : Env} {G : Mem} {h h' : Heap} (f : Frz E G h) (k : ∀ b o, (G b).isSome = true → h.get b = some o → h'.get b = some o) : Frz E G h' := fun b c hb => by
  obtain ⟨e, fx, hh⟩ := f b c hb
  exact ⟨e, fx, k _ _ (by rw [hb]; rfl) hh⟩
/-- An append where there is room. -/
theorem kwv_room {E : Env} {h : Heap} {t e e' z by_ b cap n : Nat} {fx : Bool} {cs rest xs : List Value} {d : Option Nat} {R : Cont} {tm : Tr Value} (T : Elem E t e z by_) (hW : WF E h) (hg : h.get b = some (.cells (cs ++ rest) e fx)) (hc : cs.length = n * z) (hr : z ≤ rest.length) (hn : n + 1 ≤ cap)
    (hl : xs.length = z) (ho : xs.all Value.oneCell' = true)
    (K : R (aput tm d (.slice (some ⟨b, 0, none⟩) (n + 1) cap)) ((h.push (.cells xs e' true)).put b (.cells ((cs ++ xs) ++ rest.drop z) e fx))) : kwv (aappend E (h.push (.cells xs e' true)) t t (.slice (some ⟨b, 0, none⟩) n cap) (.slice (some ⟨h.next, 0, none⟩) 1 1)) d R tm (h.push (.cells xs e' true)) := by
  obtain ⟨i, hi, hiz⟩ : ∃ i, E.P.info? e = some i ∧ (i.size, i.bytes) = (z, by_) := by
    have := T.info
    rw [Option.map_eq_some_iff] at this
    exact this
  injection hiz with hz1 hz2
  subst hz1; subst hz2
  have hz := T.pos
  have hx : asrc E (h.push (.cells xs e' true)) i.size (.slice (some ⟨h.next, 0, none⟩) 1 1) 1 = some xs := by
    simp only [asrc, Nat.one_mul]
    rw [if_neg (by omega)]
    unfold acells
    simp only [hW.nb0, if_false, get_push, if_true, Nat.zero_add]
    rw [if_pos (by omega), List.drop_zero, List.take_of_length_le (by omega)]
  have kp := (Keep.refl h).push (o := .cells xs e' true) hW
  have hg' := kp.get _ _ hg
  refine ⟨(_, _), ?_, K⟩
  simp only [aappend, T.und, alenOf, isIntD, Bool.false_eq_true, if_false, hi]
  unfold aappendE
  rw [if_neg (by omega)]
  simp only [hx]
  rw [if_pos hn]
  simp only [addo, Nat.zero_add, awrite, hg']
  rw [if_pos ⟨by simp only [List.length_append]; omega, ho⟩]
  simp only [Option.map_some]
  rw [← hc, splice_end (by omega), hl]; rfl
theorem scQ_live {c : Nat → St} {D : List Nat} {v : Value} (h : sc (c 0).h.next v = true) (hv : ∃ a n k, v = .slice a n k) : scQ (live c D) v = true := by
  obtain ⟨a, n, k, rfl⟩ := hv
  cases a with
  | none => rfl
  | some a =>
    simp only [sc] at h
    show live c D a.block = true
    unfold live
    rw [h]; rfl
theorem scQ_liveS {c : Nat → St} {D : List Nat} {a : Option Addr} {n k : Nat} (h : sc (c 0).h.next (.slice a n k) = true) : scQ (live c D) (.slice a n k) = true := scQ_live h ⟨_, _, _, rfl⟩
theorem Sl.sc {E : Env} {G : Mem} {h : Heap} (hW : WF E h) (hG : Frz E G h) {z n : Nat} {cs : List Value} {v : Value} (H : Sl E G z n cs v) : Go.Tm.sc h.next v = true := by
  obtain ⟨a, c, rfl, h1, h2, h3, h4⟩ := H
  cases a with
  | none => rfl
  | some a =>
    simp only [Go.Tm.sc, decide_eq_true_eq]
    rcases h3.2 a rfl with h5 | ⟨g, h5⟩
    · have := hW.base; omega
    · obtain ⟨e, fx, h6⟩ := hG _ _ h5
      exact (hW.live _ _ h6).2
theorem Frz.addB {E : Env} {G : Mem} {h : Heap} (hG : Frz E G h) {b : Nat} {c : List Value} {e : TypeId} {fx : Bool} (hb : h.get b = some (.cells c e fx)) : Frz E (fun j => if j = b then some c else G j) h := by
  intro j c' hj
  replace hj : (if j = b then some c else G j) = some c' := hj
  split at hj
  · rename_i e1; subst e1; injection hj with hj; subst hj; exact ⟨_, _, hb⟩
  · exact hG j c' hj
theorem Sub.addB {G : Mem} {b : Nat} {c : List Value} (hb : G b = none) : Sub G (fun j => if j = b then some c else G j) := fun j c' hj => by
  show (if j = b then some c else G j) = some c'
  rw [if_neg (by intro e; subst e; rw [hb] at hj; cases hj)]; exact hj
theorem Sl.whole {E : Env} {G : Mem} {b z n : Nat} {c : List Value} (hb : ¬ b < E.base) (hG : G b = some c) (hl : c.length = n * z) (hn : n ≤ 9223372036854775807) : Sl E G z n c (.slice (some ⟨b, 0, none⟩) n n) := by
  refine ⟨some ⟨b, 0, none⟩, n, rfl, Nat.le_refl _, hn, ⟨fun x => (by cases x), fun b' e => .inr ⟨c, by injection e with e; subst e; exact hG⟩⟩, .inr ⟨_, rfl, ?_⟩⟩
  unfold gcells
  rw [if_neg hb]
  simp only [hG, Nat.zero_add]
  rw [if_pos (by omega), List.drop_zero, List.take_of_length_le (by omega)]
theorem scO_repL {q : Nat → Bool} {n : Nat} {zs : List Value} (hz : zs.all (scQ q) = true) {e : TypeId} {fx : Bool} : scOQb q (.cells (arep n zs) e fx) = true := by
  simp only [scOQb, List.all_eq_true] at hz ⊢
  intro v hv
  exact hz v (arep_mem hv)
theorem RepFs.app {E : Env} {G : Mem} : ∀ {l l' : List (ByteArray × Vl)} {c c' : List Value}, RepFs E G l c → RepFs E G l' c' → RepFs E G (l ++ l') (c ++ c')
  | [], l', c, c', h, h' => by unfold RepFs at h; subst h; simpa using h'
  | (nm, v) :: l, l', c, c', h, h' => by
    unfold RepFs at h
    obtain ⟨c1, c2, rfl, h1, h2, h3⟩ := h
    simp only [List.cons_append]
    unfold RepFs
    exact ⟨c1, c2 ++ c', by simp, h1, RepFs.app h2 h', h3⟩
theorem RepFs.one {E : Env} {G : Mem} {x : ByteArray × Vl} {c : List Value} (h : Rep E G x.2 c) (hn : x.1.size ≤ 140737488355328) : RepFs E G [x] (.string x.1 :: c) := by
  obtain ⟨nm, v⟩ := x
  unfold RepFs
  exact ⟨c, [], by simp, h, by unfold RepFs; rfl, hn⟩
theorem wpc_scope3 {E : Env} {b : Code} {Q : XCont} {tm : Tr Value} {h : Heap} (J : Nat → Nat → Cont) (N : Nat)
    (H1 : ∃ c, findLabel b 1 = some c ∧ ∀ n tm h, J 1 n tm h → wpc E c (kgoto J n Q) tm h)
    (H2 : ∀ c1, findLabel b 1 = some c1 → (∀ n tm h, J 1 n tm h → wpc E c1 (kgoto J n Q) tm h) → ∃ c, findLabel b 2 = some c ∧ ∀ n tm h, J 2 n tm h → wpc E c (kgoto J n Q) tm h)
    (H0 : ∀ c2, findLabel b 2 = some c2 → (∀ n tm h, J 2 n tm h → wpc E c2 (kgoto J n Q) tm h) → ∃ c, findLabel b 0 = some c ∧ ∀ n tm h, J 0 n tm h → wpc E c (kgoto J n Q) tm h)
    (HS : ∀ c0, findLabel b 0 = some c0 → (∀ n tm h, J 0 n tm h → wpc E c0 (kgoto J n Q) tm h) → wpc E b (kgoto J N Q) tm h)
    (HN : ∀ l n tm h, 3 ≤ l → ¬ J l n tm h) : wpc E (.scope b) Q tm h := by
  obtain ⟨c1, e1, k1⟩ := H1
  obtain ⟨c2, e2, k2⟩ := H2 c1 e1 k1
  obtain ⟨c0, e0, k0⟩ := H0 c2 e2 k2
  refine wpc_scope J N (HS c0 e0 k0) fun l n tm h hJ => ?_
  match l, hJ with
  | 0, hJ => exact ⟨c0, e0, k0 _ _ _ hJ⟩
  | 1, hJ => exact ⟨c1, e1, k1 _ _ _ hJ⟩
  | 2, hJ => exact ⟨c2, e2, k2 _ _ _ hJ⟩
  | l + 3, hJ => exact (HN _ _ _ _ (by omega) hJ).elim
attribute [push_cast] kgoto_goto kgoto_normal kgoto_ret kgoto_exit
theorem nd3 {sb : Nat} {A B bs : List Nat} (h : ([sb] ++ ((A ++ B) ++ bs)).Nodup) : ([sb] ++ bs).Nodup ∧ (∀ b, b ∈ A → b ∉ B ∧ b ≠ sb ∧ b ∉ bs) ∧ (∀ b, b ∈ B → b ∉ A ∧ b ≠ sb ∧ b ∉ bs) ∧ (∀ b, b ∈ bs → b ≠ sb) ∧ A.Nodup ∧ B.Nodup ∧ bs.Nodup := by
  rw [List.singleton_append, List.nodup_cons] at h
  obtain ⟨h1, h2⟩ := h
  obtain ⟨h3, h4, h5⟩ := List.nodup_append.1 h2
  obtain ⟨h6, h7, h8⟩ := List.nodup_append.1 h3
  simp only [List.mem_append, not_or] at h1
  refine ⟨by rw [List.singleton_append, List.nodup_cons]; exact ⟨h1.2, h4⟩, fun b hb => ⟨fun h => h8 b hb b h rfl, fun e => h1.1.1 (e ▸ hb), fun h => h5 b (by simp [hb]) b h rfl⟩, fun b hb => ⟨fun h => h8 b h b hb rfl, fun e => h1.1.2 (e ▸ hb), fun h => h5 b (by simp [hb]) b h rfl⟩, fun b hb e => h1.2 (e ▸ hb), h6, h7, h4⟩
theorem asl_top {P : Program} {t e : TypeId} {z : Nat} (hu : P.underlying t = some (.slice e)) (hz : asz P e = some z) {b n k cap : Nat} (hk : k ≤ n) (hn : n ≤ cap) (h0 : 0 < cap) : asl P t (.slice (some ⟨b, 0, none⟩) n cap) none (some (.int .i64 k)) = some (.slice (some ⟨b, 0, none⟩) k cap) := by
  have h1 : abnd (some (.int .i64 (k : Int))) n cap = some k := by unfold abnd; simp only; rw [if_pos (by omega)]; simp
  have h2 : abnd none 0 k = some 0 := rfl
  unfold asl
  rw [hu]
  simp only [h1, h2, hz]
  rw [if_pos h0]
  simp [addo]
/-- A cut at a join behind a branch of which a part may leave. -/
theorem kif_cutS {E : Env} {a b : Code} {v : Value} {R : Cont} {Q : XCont} {tm : Tr Value} {h : Heap} (P : Cont) (m : ∀ tm h, P tm h → R tm h) (H : kif E v (wpc E a) (wpc E b) (kseq P Q) tm h) : kif E v (wpc E a) (wpc E b) (kseq R Q) tm h :=
  kif_cut _ (fun e tm h he => by cases e with
    | normal => exact m _ _ he
    | ret => exact he
    | exit i => exact he
    | goto l => exact he) H
/-- A list of one's own is left as it is from now on (whatever is left already). -/
theorem Own.addF {E : Env} {G : Mem} {h : Heap} {e z lo n : Nat} {cs : List Value} {v : Value} (hW : WF E h) (hG : Frz E G h) (H : Own h e z lo n cs v) :
    ∃ G', Sl E G' z n cs v ∧ Sub G G' ∧ Frz E G' h ∧ ∀ b c, G' b = some c → G b = some c ∨ (b ∈ slB v ∧ lo ≤ b) := by
  rcases H with ⟨rfl, rfl, rfl⟩ | ⟨b, cap, rest, fx, rfl, hg, hc1, hc2, hc3, hc4, hc5⟩
  · exact ⟨G, ⟨none, 0, rfl, by omega, by omega, ⟨fun _ => rfl, fun _ x => (by cases x)⟩, .inl ⟨rfl, rfl⟩⟩, Sub.refl _, hG, fun b c h => .inl h⟩
  · refine ⟨fun j => if j = b then some (cs ++ rest) else G j, ⟨some ⟨b, 0, none⟩, cap, rfl, hc3, hc5, ⟨fun x => (by cases x), fun b' e => .inr ⟨cs ++ rest, by injection e with e; subst e; simp⟩⟩, .inr ⟨_, rfl, ?_⟩⟩, ?_, ?_, ?_⟩
    · unfold gcells
      rw [if_neg (by have := hW.nlt hg; simpa using this)]
      simp only [if_true]
      rw [if_pos (by simp [hc1])]
      simp [← hc1]
    · intro j c hj
      show (if j = b then some (cs ++ rest) else G j) = some c
      split
      · rename_i e1; subst e1
        obtain ⟨e2, fx2, hh⟩ := hG j c hj
        rw [hg] at hh
        injection hh with hh
        injection hh with hh
        rw [hh]
      · exact hj
    · intro j c hj
      replace hj : (if j = b then some (cs ++ rest) else G j) = some c := hj
      split at hj
      · rename_i e1; subst e1; injection hj with hj; subst hj; exact ⟨_, _, hg⟩
      · exact hG j c hj
    · intro j c hj
      replace hj : (if j = b then some (cs ++ rest) else G j) = some c := hj
      split at hj
      · rename_i e1; right; subst e1; exact ⟨by simp [slB], hc4⟩
      · exact .inl hj
theorem wpc_label_cut {E : Env} {l : Nat} {rest : Code} {Q : XCont} {tm : Tr Value} {h : Heap} (H : wpc E (.seq .skip rest) Q tm h) : wpc E (.label l) (kseq (wpc E rest Q) Q) tm h := H
end Go.Tm
/- From what a row reads to lists that stay: plain laws. -/
namespace Go.Tm
open Go
theorem mapM_at {α β : Type} (f : α → Option β) : ∀ (l : List α) (r : List β), l.mapM f = some r → r.length = l.length ∧ ∀ (i : Nat) (x : α), l[i]? = some x → ∃ y, r[i]? = some y ∧ f x = some y
  | [], r, h => by simp at h; subst h; simp
  | x :: l, r, h => by
    rw [List.mapM_cons] at h
    cases hx : f x with
    | none => rw [hx] at h; cases h
    | some y =>
      rw [hx] at h
      cases hl : l.mapM f with
      | none => rw [hl] at h; cases h
      | some r' =>
        rw [hl] at h
        injection h with h
        replace h : y :: r' = r := h
        subst h
        obtain ⟨h1, h2⟩ := mapM_at f l r' hl
        refine ⟨by simp [h1], fun i z hz => ?_⟩
        cases i with
        | zero => simp at hz; subst hz; exact ⟨y, rfl, hx⟩
        | succ i => exact h2 i z (by simpa using hz)
theorem cells_read {w : World} {a : Addr} {n : Nat} {l : List Value} (h : w.cells? 0 a n = some l) (hn : 0 < n) : a.spot = none ∧ ∃ c e fr, w.heap[a.block]? = some (.cells c e fr) ∧ a.off + n ≤ c.size ∧ l = (c.toList.drop a.off).take n := by
  unfold World.cells? at h
  rw [if_pos (Nat.zero_le _)] at h
  obtain ⟨h1, h2⟩ := mapM_at _ _ _ h
  rw [List.length_range] at h1
  obtain ⟨y0, _, h0⟩ := h2 0 0 (by simp [hn])
  have ha0 : a.add 0 = a := by simp [Addr.add]
  rw [ha0] at h0
  unfold World.cell? at h0
  split at h0
  · rename_i c e fr hc
    split at h0
    · cases h0
    · rename_i hsp
      have hsp' : a.spot = none := by cases hs : a.spot with
        | none => rfl
        | some d => rw [hs] at hsp; simp at hsp
      have hat : ∀ i, i < n → c[a.off + i]? = l[i]? := by
        intro i hi
        obtain ⟨y, hy, hf⟩ := h2 i i (by simp [hi])
        rw [hy]
        rw [add_of_none hsp'] at hf
        simp only [World.cell?, addo, hc] at hf
        simpa using hf
      refine ⟨hsp', c, e, fr, hc, ?_, ?_⟩
      · have := hat (n - 1) (by omega)
        rw [List.getElem?_eq_getElem (by omega)] at this
        have := (Array.getElem?_eq_some_iff.1 this).1
        omega
      · refine List.ext_getElem? fun i => ?_
        rw [List.getElem?_take]
        split
        · rename_i hi
          rw [List.getElem?_drop, ← hat i hi]; simp
        · rename_i hi
          rw [List.getElem?_eq_none (by omega)]
  · cases h0
section
variable {H : Type} {enc : TypeId × Value → H} {P : Program} {w : World} {sp : Nat → Bool} {held : Bool} {fuel : Nat} {t : TypeId} {cs : List Value} {d : DataW H} {ps : List MemPlace}
theorem trod_int {k : IntKind} (hu : P.underlying t = some (.int k)) (h : DataW.trod enc P w 0 sp held (fuel + 1) t cs = some (d, ps)) : ∃ n, cs = [.int k n] ∧ k.min ≤ n ∧ n ≤ k.max := by
  unfold DataW.trod at h
  rw [hu] at h
  split at h <;> simp only [Option.some.injEq, reduceCtorEq, TypeDesc.int.injEq] at * <;> (try contradiction)
  rename_i k1 k2 n h1
  split at h
  · rename_i hc
    obtain ⟨rfl, hw⟩ := hc
    subst h1
    simp only [Lit.wf, Bool.and_eq_true, decide_eq_true_eq] at hw
    exact ⟨n, rfl, hw.1, hw.2⟩
  · cases h
theorem trod_string (hu : P.underlying t = some .string) (h : DataW.trod enc P w 0 sp held (fuel + 1) t cs = some (d, ps)) : ∃ s : ByteArray, cs = [.string s] ∧ d = .lit (.string s.data.toList) := by
  unfold DataW.trod at h
  rw [hu] at h
  split at h <;> simp only [Option.some.injEq, reduceCtorEq] at * <;> (try contradiction)
  split at h
  · injection h with h
    injection h with h1 _
    exact ⟨_, rfl, h1.symm⟩
  · cases h
theorem trod_slice {e : TypeId} (hu : P.underlying t = some (.slice e)) (h : DataW.trod enc P w 0 (fun _ => true) held (fuel + 1) t cs = some (d, ps)) :
    (cs = [.slice none 0 0] ∧ d = .nil) ∨ ∃ a len cap elems rest, cs = [.slice (some a) len cap] ∧ len ≤ cap ∧ cap ≤ maxLen ∧
      (List.range len).mapM (fun i => (w.cells? 0 (a.add (i * P.cellsOf e)) (P.cellsOf e)).bind (DataW.trod enc P w 0 (fun _ => true) held fuel e)) = some elems ∧
      (List.range (cap - len)).mapM (fun j => (w.cells? 0 (a.add ((len + j) * P.cellsOf e)) (P.cellsOf e)).bind (DataW.trod enc P w 0 (fun _ => true) held fuel e)) = some rest ∧ d = .slice (elems.map (·.1)) (rest.map (·.1)) := by
  unfold DataW.trod at h
  rw [hu] at h
  split at h <;> simp only [Option.some.injEq, reduceCtorEq, TypeDesc.slice.injEq] at * <;> (try contradiction)
  · left; injection h with h1 _; exact ⟨trivial, h1.symm⟩
  · right
    rename_i e1 a len cap he
    subst he
    split at h
    · rename_i hc
      rw [Option.bind_eq_some_iff] at h
      obtain ⟨elems, h1, h2⟩ := h
      rw [Option.map_eq_some_iff] at h2
      obtain ⟨rest, h3, h4⟩ := h2
      injection h4 with h4 _
      exact ⟨a, len, cap, elems, rest, rfl, hc.2.1, hc.2.2, h1, h3, h4.symm⟩
    · cases h
theorem trod_struct {fs : Array Field} (hu : P.underlying t = some (.struct fs)) (h : DataW.trod enc P w 0 sp held (fuel + 1) t cs = some (d, ps)) :
    cs.length = P.cellsOf t ∧ ∃ xs, fs.toList.mapM (fun f => DataW.trod enc P w 0 sp held fuel f.type ((cs.drop f.offset).take (P.cellsOf f.type))) = some xs ∧ d = .agg (xs.map (·.1)) := by
  unfold DataW.trod at h
  simp only [hu] at h
  split at h
  · rename_i hc
    rw [Option.map_eq_some_iff] at h
    obtain ⟨xs, h1, h2⟩ := h
    injection h2 with h2 _
    exact ⟨hc, xs, h1, h2.symm⟩
  · cases h
end
theorem RepLs.of_at {E : Env} {G : Mem} : ∀ (n : Nat) (cs : List Value), cs.length = n * 5 → (∀ i, i < n → ∃ V, Rep E G V ((cs.drop (i * 5)).take 5)) → ∃ l, l.length = n ∧ RepLs E G l cs
  | 0, cs, hl, h => ⟨[], rfl, by unfold RepLs; exact List.length_eq_zero_iff.1 (by omega)⟩
  | n + 1, cs, hl, h => by
    obtain ⟨V, hV⟩ := h 0 (by omega)
    obtain ⟨l, h1, h2⟩ := RepLs.of_at n (cs.drop 5) (by rw [List.length_drop]; omega) (fun i hi => by
      obtain ⟨V, hV⟩ := h (i + 1) (by omega)
      refine ⟨V, ?_⟩
      rw [List.drop_drop, show 5 + i * 5 = (i + 1) * 5 by omega]; exact hV)
    refine ⟨V :: l, by simp [h1], ?_⟩
    unfold RepLs
    exact ⟨cs.take 5, cs.drop 5, by simp, by simpa using hV, h2⟩
theorem RepFs.of_at {E : Env} {G : Mem} : ∀ (n : Nat) (cs : List Value), cs.length = n * 6 → (∀ i, i < n → ∃ nm V c1, (cs.drop (i * 6)).take 6 = .string nm :: c1 ∧ Rep E G V c1 ∧ nm.size ≤ 140737488355328) → ∃ l, l.length = n ∧ RepFs E G l cs
  | 0, cs, hl, h => ⟨[], rfl, by unfold RepFs; exact List.length_eq_zero_iff.1 (by omega)⟩
  | n + 1, cs, hl, h => by
    obtain ⟨nm, V, c1, hc, hV, hn⟩ := h 0 (by omega)
    obtain ⟨l, h1, h2⟩ := RepFs.of_at n (cs.drop 6) (by rw [List.length_drop]; omega) (fun i hi => by
      obtain ⟨nm, V, c1, hc, hV, hn⟩ := h (i + 1) (by omega)
      refine ⟨nm, V, c1, ?_, hV, hn⟩
      rw [List.drop_drop, show 6 + i * 6 = (i + 1) * 6 by omega]; exact hc)
    refine ⟨(nm, V) :: l, by simp [h1], ?_⟩
    unfold RepFs
    refine ⟨c1, cs.drop 6, ?_, hV, h2, hn⟩
    have := List.take_append_drop 6 cs
    rw [show cs.take 6 = .string nm :: c1 by simpa using hc] at this
    simpa using this.symm
/-- The blocks that a value's slice names. -/
def blkN : Value → Nat
  | .slice (some a) _ _ => a.block + 1
  | _ => 0
def objN : Obj → Nat
  | .cells c _ _ => (c.toList.map blkN).sum
  | _ => 0
theorem le_sum {l : List Nat} {x : Nat} (h : x ∈ l) : x ≤ l.sum := by
  induction l with
  | nil => simp at h
  | cons y l ih =>
    simp only [List.mem_cons] at h
    simp only [List.sum_cons]
    rcases h with rfl | h
    · omega
    · have := ih h; omega
/-- A bound on all blocks that are, or are named by a slice that lies in memory, or by one of these. -/
def topN (w : World) (vs : List Value) : Nat := w.heap.size + (w.heap.toList.map objN).sum + (vs.map blkN).sum
theorem topN_heap {w : World} {vs : List Value} {b : Nat} {c : Array Value} {e : TypeId} {fr : Nat × Nat} (h : w.heap[b]? = some (.cells c e fr)) {v : Value} (hv : v ∈ c.toList) : blkN v ≤ topN w vs := by
  have h1 : Obj.cells c e fr ∈ w.heap.toList := by rw [Array.mem_toList_iff]; exact Array.mem_of_getElem? h
  have h2 := le_sum (List.mem_map.2 ⟨_, h1, rfl⟩ : objN (.cells c e fr) ∈ w.heap.toList.map objN)
  have h3 := le_sum (List.mem_map.2 ⟨_, hv, rfl⟩ : blkN v ∈ c.toList.map blkN)
  unfold topN
  simp only [objN] at h2
  omega
theorem topN_size (w : World) (vs : List Value) : w.heap.size ≤ topN w vs := by unfold topN; omega
theorem topN_arg {w : World} {vs : List Value} {v : Value} (hv : v ∈ vs) : blkN v ≤ topN w vs := by
  have := le_sum (List.mem_map.2 ⟨_, hv, rfl⟩ : blkN v ∈ vs.map blkN)
  unfold topN; omega
end Go.Tm
/- The logic: temporaries forgotten but for some; long regions that draw their order. -/
namespace Go.Tm
theorem kput_gen {tm : Tr Value} {d : Option Nat} {R : Cont} {v : Value} {h : Heap} (H : ∀ tm', (∀ k, fget tm' k = fget tm k) → kput tm' d R v h) : kput tm d R v h := H tm fun _ => rfl
/-- 'wpt' under another name: its rules are no equations by definition, so the kernel needn't look into it. -/
def wpu (E : Env) (O l : List Oper) (tr : List St) (Q : List St → Prop) : Cont := wpt E O l tr Q
section
variable {E : Env} {O l : List Oper} {tr : List St} {Q : List St → Prop} {tm : Tr Value} {h : Heap} {ty : TypeId} {pos : String} {aft : Array Edge}
theorem wpu_nil : wpu E O [] tr Q tm h ↔ Q (tr ++ [⟨tm, h⟩]) := Iff.intro id id
theorem wpu_cons {d : Option Nat} {op : Op} : wpu E O (⟨d, op, ty, pos, aft, none⟩ :: l) tr Q tm h ↔ wop1 E op d (wpu E O l (tr ++ [⟨tm, h⟩]) Q) tm h := by
  unfold wpu; rw [wpt_cons]
theorem wpu_guard {d : Option Nat} {op : Op} {j : Nat} {b : Bool} : wpu E O (⟨d, op, ty, pos, aft, some (j, b)⟩ :: l) tr Q tm h ↔ kguard (gval O j tm) b (wop1 E op d (wpu E O l (tr ++ [⟨tm, h⟩]) Q)) (wskip d (wpu E O l (tr ++ [⟨tm, h⟩]) Q)) tm h := by
  unfold wpu; rw [wpt_guard]
end
theorem wdraw_pairsF {E : Env} {O : List Oper} {Q : Cont} {tm : Tr Value} {h : Heap} (prs : List (Nat × Nat)) (h1 : dstat E.P O (masks O []) none = true) (h2 : (match spOf E.P O (masks O []) with | none => true | some _ => false) = true) (h3 : unord E.P O (masks O []) = prs)
    (H : ∀ F : List St → Prop, (∀ tr, (∀ p, p ∈ prs → pairOk E O tr ⟨tm, h⟩ p.1 p.2) → Q (sget tr ⟨tm, h⟩ O.length).tm (sget tr ⟨tm, h⟩ O.length).h → F tr) → wpu E O O [] F tm h) : wdraw E O Q tm h :=
  wdraw_pairs prs h1 h2 h3 (H _ fun _ a b => ⟨a, b⟩)
end Go.Tm
/- The logic: a method called through an interface. -/
namespace Go.Tm
def ameth (P : Program) (t : TypeId) (name : String) : Option FuncId :=
  match P.info? t with
  | none => none
  | some i => match i.methods.toList.find? (·.name == name) with
    | some m => match m.path.toList, m.func, P.underlying t with
      | [], some (f, true), some (.pointer _) => some f
      | _, _, _ => none
    | none => none
def kinv (E : Env) (v : Value) (name : String) (as : List Value) (d : Option Nat) (R : Cont) : Cont := fun tm h =>
  match v with
  | .iface t v => ∃ f, ameth E.P t name = some f ∧ CallsTo E f (v :: as) h (kput tm d R)
  | _ => False
section
variable {E : Env} {tm : Tr Value} {h : Heap}
theorem wop_invoke {x : Operand} {name : String} {as : Array Operand} {ts : Array TypeId} {d : Option Nat} {R : Cont} : wop1 E (.call ⟨.invoke x name, as, ts⟩) d R tm h ↔ kinv E (opd tm x) name (as.toList.map (opd tm)) d R tm h := by
  simp only [wop1, wpop, kindOf, aeff, kinv, ameth]
  cases opd tm x with
  | iface t v =>
    simp only
    cases E.P.info? t with
    | none => simp
    | some i =>
      simp only
      cases i.methods.toList.find? (·.name == name) with
      | none => simp
      | some m =>
        simp only
        generalize m.path.toList = p
        generalize m.func = q
        generalize E.P.underlying t = u
        split <;> simp
  | _ => simp
theorem kinv_iface {t : TypeId} {v : Value} {name : String} {as : List Value} {d : Option Nat} {R : Cont} {f : FuncId} (hf : ameth E.P t name = some f) : kinv E (.iface t v) name as d R tm h ↔ CallsTo E f (v :: as) h (kput tm d R) := by
  simp [kinv, hf]
end
attribute [push_cast] wop_invoke
end Go.Tm
namespace Go.Tm
/-- But for these all is as it was. -/
structure KX (X : Nat → Prop) (h h' : Heap) : Prop where
  get : ∀ b o, ¬ X b → h.get b = some o → h'.get b = some o
  next : h.next ≤ h'.next
theorem KX.refl (X : Nat → Prop) (h : Heap) : KX X h h := ⟨fun _ _ _ x => x, Nat.le_refl _⟩
theorem KX.trans {X : Nat → Prop} {h h1 h2 : Heap} (a : KX X h h1) (b : KX X h1 h2) : KX X h h2 := ⟨fun x o n y => b.get x o n (a.get x o n y), Nat.le_trans a.next b.next⟩
theorem KX.mono {X Y : Nat → Prop} {h h' : Heap} (a : KX X h h') (m : ∀ b, X b → Y b) : KX Y h h' := ⟨fun x o n y => a.get x o (fun hx => n (m x hx)) y, a.next⟩
/-- One behind the other, where the second may touch what is new. -/
theorem KX.then {E : Env} {X Y : Nat → Prop} {h h1 h2 : Heap} (hW : WF E h) (a : KX X h h1) (b : KX Y h1 h2) (m : ∀ x, Y x → X x ∨ h.next ≤ x) : KX X h h2 := ⟨fun x o n y => by
  refine b.get x o (fun hy => ?_) (a.get x o n y)
  rcases m x hy with h3 | h3
  · exact n h3
  · have := (hW.live x o y).2; omega, Nat.le_trans a.next b.next⟩
theorem Keep.x {h h' : Heap} (k : Keep h h') (X : Nat → Prop) : KX X h h' := ⟨fun b o _ x => k.get b o x, k.next⟩
end Go.Tm
