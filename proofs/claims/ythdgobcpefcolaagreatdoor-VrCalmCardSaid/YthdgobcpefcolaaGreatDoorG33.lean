/- Chapter 25: the law VrCalm. -/
/- Merged by a program of ours: UB U33. -/
import Derived.Test.YthdgobcpefcolaaGreatDoorG16
import Derived.Test.YthdgobcpefcolaaGreatDoorG15
import Derived.Test.YthdgobcpefcolaaGreatDoorG32
set_option maxRecDepth 10000
set_option linter.all false
set_option linter.unusedSimpArgs false
set_option linter.unusedVariables false
/- Boxes beside what a call may touch. -/
namespace Go.Tm
/-- Boxes: what lies in them; they are no part of Z, and don't stay for ever. -/
structure BX (G : Mem) (H : Heap) (Z : Nat → Prop) (xs : List (Nat × AObj)) : Prop where
  get : ∀ b o, (b, o) ∈ xs → H.get b = some o
  out : ∀ b o, (b, o) ∈ xs → ¬ Z b ∧ G b = none
  nd : (xs.map Prod.fst).Nodup
section
variable {E : Env} {G G' : Mem} {H H' : Heap} {Z Z' : Nat → Prop} {xs : List (Nat × AObj)}
theorem BX.at (B : BX G H Z xs) (i : Nat) {b : Nat} {o : AObj} (h : xs[i]? = some (b, o)) : H.get b = some o ∧ ¬ Z b ∧ G b = none :=
  ⟨B.get b o (List.mem_of_getElem? h), B.out b o (List.mem_of_getElem? h)⟩
theorem BX.nil : BX G H Z [] := ⟨fun b o h => by simp at h, fun b o h => by simp at h, by simp⟩
theorem BX.kw (hW : WF E H) (B : BX G H Z xs) (k : KW E H H') : BX G H' Z xs := ⟨fun b o h => k.k.get _ _ (B.get b o h), B.out, B.nd⟩
/-- One more box. -/
theorem BX.new (hW : WF E H) (B : BX G H Z xs) (hZ : ¬ Z H.next) (hG : G H.next = none) {o : AObj} : BX G (H.push o) Z ((H.next, o) :: xs) := by
  refine ⟨fun b p h => ?_, fun b p h => ?_, ?_⟩
  · rcases List.mem_cons.1 h with h | h
    · injection h with h1 h2; subst h1; subst h2; rw [get_push, if_pos rfl]
    · have hg := B.get b p h
      rw [get_push, if_neg (by have := (hW.live _ _ hg).2; omega)]; exact hg
  · rcases List.mem_cons.1 h with h | h
    · injection h with h1 h2; subst h1; exact ⟨hZ, hG⟩
    · exact B.out b p h
  · rw [List.map_cons, List.nodup_cons]
    refine ⟨fun h => ?_, B.nd⟩
    obtain ⟨⟨b, p⟩, h1, h2⟩ := List.mem_map.1 h
    have := (hW.live _ _ (B.get b p h1)).2
    simp only at h2; omega
theorem BX.put (B : BX G H Z xs) (i : Nat) {b : Nat} {o o' : AObj} (h : xs[i]? = some (b, o)) : BX G (H.put b o') Z (xs.set i (b, o')) := by
  have hi : i < xs.length := (List.getElem?_eq_some_iff.1 h).1
  have key : ∀ c p, (c, p) ∈ xs.set i (b, o') → (c = b ∧ p = o') ∨ (c ≠ b ∧ (c, p) ∈ xs) := by
    intro c p hc
    obtain ⟨j, hj⟩ := List.mem_iff_getElem?.1 hc
    rw [List.getElem?_set] at hj
    by_cases hij : i = j
    · subst hij
      rw [if_pos rfl, if_pos hi] at hj
      injection hj with hj
      injection hj with h1 h2
      exact .inl ⟨h1.symm, h2.symm⟩
    · rw [if_neg hij] at hj
      refine .inr ⟨fun e => hij ?_, List.mem_of_getElem? hj⟩
      subst e
      have h1 : (xs.map Prod.fst)[i]? = some c := by rw [List.getElem?_map, h]; rfl
      have h2 : (xs.map Prod.fst)[j]? = some c := by rw [List.getElem?_map, hj]; rfl
      obtain ⟨l1, e1⟩ := List.getElem?_eq_some_iff.1 h1
      obtain ⟨l2, e2⟩ := List.getElem?_eq_some_iff.1 h2
      have hp := List.pairwise_iff_getElem.1 B.nd
      rcases Nat.lt_trichotomy i j with h3 | h3 | h3
      · exact absurd (e1.trans e2.symm) (hp i j l1 l2 h3)
      · exact h3
      · exact absurd (e2.trans e1.symm) (hp j i l2 l1 h3)
  refine ⟨fun c p hc => ?_, fun c p hc => ?_, ?_⟩
  · rcases key c p hc with ⟨h1, h2⟩ | ⟨h1, h2⟩
    · subst h1; subst h2; rw [get_put, if_pos rfl]
    · rw [get_put, if_neg (fun e => h1 e.symm)]; exact B.get c p h2
  · rcases key c p hc with ⟨h1, h2⟩ | ⟨h1, h2⟩
    · subst h1; exact B.out c o (List.mem_of_getElem? h)
    · exact B.out c p h2
  · have : (xs.set i (b, o')).map Prod.fst = xs.map Prod.fst := by
      apply List.ext_getElem?
      intro j
      rw [List.getElem?_map, List.getElem?_map, List.getElem?_set]
      by_cases hij : i = j
      · subst hij; rw [if_pos rfl, if_pos hi, h]; rfl
      · rw [if_neg hij]
    rw [this]; exact B.nd
end
end Go.Tm
namespace Go.Tm
open Vr
theorem Own.still {E : Env} {G : Mem} {h : Heap} {e z lo n : Nat} {cs : List Value} {v : Value} (hW : WF E h) (hG : Frz E G h) (H : Own h e z lo n cs v) : ∃ G', Fz E G' z n cs v ∧ Sub G G' ∧ Frz E G' h ∧ ∀ b c, G' b = some c → G b = some c ∨ b ∈ slB v := by
  rcases H with ⟨rfl, rfl, rfl⟩ | ⟨b, cap, rest, fx, rfl, hg, hc1, hc2, hc3, hc4, hc5⟩
  · exact ⟨G, Fz.nil, Sub.refl _, hG, fun b c h => .inl h⟩
  · have hs : Sub G (fun j => if j = b then some (cs ++ rest) else G j) := by
      intro j c hj
      show (if j = b then some (cs ++ rest) else G j) = some c
      by_cases e1 : j = b
      · subst e1
        obtain ⟨e', fx', hh⟩ := hG j c hj
        rw [hg] at hh
        injection hh with hh
        injection hh with hh
        rw [if_pos rfl, hh]
      · rw [if_neg e1]; exact hj
    have hnb : ¬ b < E.base := by have := hW.nlt hg; simpa using this
    refine ⟨fun j => if j = b then some (cs ++ rest) else G j, ⟨⟨some ⟨b, 0, none⟩, cap, rfl, hc3, hc5, ⟨fun x => (by cases x), fun b' e => .inr ⟨cs ++ rest, by injection e with e; subst e; simp⟩⟩, .inr ⟨_, rfl, ?_⟩⟩, fun a k c e => by injection e with e; injection e with e; subst e; exact ⟨rfl, fun _ => gcells_none hnb rfl rfl (g := cs ++ rest) (if_pos rfl)⟩⟩, hs, ?_, ?_⟩
    · unfold gcells
      rw [if_neg hnb]
      simp only [if_true]
      rw [if_pos (by simp [hc1])]
      simp [← hc1]
    · intro j c hj
      replace hj : (if j = b then some (cs ++ rest) else G j) = some c := hj
      split at hj
      · rename_i e1; subst e1; injection hj with hj; subst hj; exact ⟨_, _, hg⟩
      · exact hG j c hj
    · intro j c hj
      replace hj : (if j = b then some (cs ++ rest) else G j) = some c := hj
      split at hj
      · rename_i e1; subst e1; right; simp [slB]
      · exact .inl hj
theorem BX.px {E : Env} {G G' : Mem} {H H' : Heap} {Z Z' : Nat → Prop} {xs : List (Nat × AObj)} (hW : WF E H) (B : BX G H Z xs) (p : PX E G H Z G' H' Z') : BX G' H' Z' xs := by
  refine ⟨fun b o h => p.kx.get _ _ (B.out b o h).1 (B.get b o h), fun b o h => ?_, B.nd⟩
  obtain ⟨h1, h2⟩ := B.out b o h
  have hl := (hW.live _ _ (B.get b o h)).2
  exact ⟨p.nx h1 hl, p.nn hl h2⟩
theorem andb3 {b : Nat} (h : b < 256) : bits .and .u8 (b : Int) 3 = ((b % 4 : Nat) : Int) :=
  (by decide +kernel : ∀ b : Fin 256, bits .and .u8 (b.val : Int) 3 = ((b.val % 4 : Nat) : Int)) ⟨b, h⟩
theorem Bz.own {Z : Nat → Prop} {G : Mem} {n : Nat} {l : List Nat} (B : Bz Z G n l) {b : Nat} (hb : b ∈ l) : ¬ Z b := (B b hb).1
end Go.Tm
namespace Go.Proofs.YthdgobcpefcolaaGreatDoor
open Go.Tm Vr
set_option linter.unusedSectionVars false
theorem GV.sl {E : Env} {G : Mem} {h : Heap} {L : List Rr} {Y : Nat → Prop} {net : List Mg} {down : List Bool} {sent : List Nat} {bD bS tv : Nat} {cs : List Value} (V : GV E G h L Y net down sent bD bS cs tv) :
    ∃ aL cL aN cN, cs = [.slice aL L.length cL, .slice (some ⟨bD, 0, none⟩) down.length down.length, .slice aN net.length cN, .slice (some ⟨bS, 0, none⟩) sent.length sent.length, iv tv] := by
  obtain ⟨vL, vN, rfl, gs⟩ := V.e
  obtain ⟨aL, cL, rfl, _⟩ := gs.ol.isSl
  obtain ⟨co, h1, _⟩ := gs.on
  obtain ⟨aN, cN, rfl, _⟩ := h1.isSl
  exact ⟨_, _, _, _, rfl⟩
theorem ia4 {P : Program} (hP : P = Tryz.prog) {b c : Nat} (hc : c < 4) : aindexAddr P 54 (ptr b) (iv c) = some (.pointer (some ⟨b, c, none⟩)) := by
  subst hP
  have h : (Tryz.prog).underlying 54 = some (.array 4 3) := Tryz.underlying54
  simp only [aindexAddr, h, ptr, iv, sz3, addo]
  rw [if_pos (by omega)]
  simp
/-- The law's memory: the group, boxes, the row of what is wanted. -/
structure CI (E : Env) (G : Mem) (n bD bS : Nat) (H : Heap) (G' : Mem) (L : List Rr) (Y : Nat → Prop) (net : List Mg) (g : Nat → PR) (W : List Ent) (cs : List Value) (vW : Value) (xs : List (Nat × AObj)) : Prop where
  V : GV E G' H L Y net (List.replicate n false) (List.replicate 9 0) bD bS cs 0
  hL : L.length = n
  hP : ∀ j a, L[j]? = some a → a.P = g j
  bx : BX G' H (gX L Y bD bS) xs
  own : Own H 56 3 0 W.length (entsC W) vW
  ow : ∀ b, b ∈ slB vW → ¬ gX L Y bD bS b ∧ G' b = none ∧ ∀ o, (b, o) ∉ xs
  sub : Sub G G'
section
variable {E : Env} {G G' : Mem} {n bD bS : Nat} {H : Heap} {L : List Rr} {Y : Nat → Prop} {net : List Mg} {g : Nat → PR} {W : List Ent} {cs : List Value} {vW : Value} {xs : List (Nat × AObj)} (c : CI E G n bD bS H G' L Y net g W cs vW xs)
include c
theorem CI.move {G2 : Mem} {H2 : Heap} {L2 : List Rr} {Y2 : Nat → Prop} {net2 : List Mg} {g2 : Nat → PR} {cs2 : List Value} (px : PX E G' H (gX L Y bD bS) G2 H2 (gX L2 Y2 bD bS)) (V2 : GV E G2 H2 L2 Y2 net2 (List.replicate n false) (List.replicate 9 0) bD bS cs2 0) (hL2 : L2.length = n) (hP2 : ∀ j a, L2[j]? = some a → a.P = g2 j) :
    CI E G n bD bS H2 G2 L2 Y2 net2 g2 W cs2 vW xs := by
  refine ⟨V2, hL2, hP2, c.bx.px c.V.so.wf px, c.own.at fun b o hb hg => px.kx.get _ _ (c.ow b hb).1 hg, fun b hb => ?_, c.sub.trans px.sub⟩
  obtain ⟨h1, h2, h3⟩ := c.ow b hb
  have hl := (c.own.lt c.V.so.wf b hb).2
  exact ⟨px.nx h1 hl, px.nn hl h2, h3⟩
theorem CI.kw {H2 : Heap} (k : KW E H H2) : CI E G n bD bS H2 G' L Y net g W cs vW xs :=
  ⟨c.V.kw k, c.hL, c.hP, c.bx.kw c.V.so.wf k, c.own.keep k.k, c.ow, c.sub⟩
theorem CI.new {o : AObj} : CI E G n bD bS (H.push o) G' L Y net g W cs vW ((H.next, o) :: xs) := by
  have k := (KW.refl c.V.so.wf).push (o := o)
  refine ⟨c.V.kw k, c.hL, c.hP, c.bx.new c.V.so.wf (fun hx => by have := c.V.so.lt _ hx; omega) (c.V.so.gnone (Nat.le_refl _)), c.own.keep k.k, fun b hb => ?_, c.sub⟩
  obtain ⟨h1, h2, h3⟩ := c.ow b hb
  have hl := (c.own.lt c.V.so.wf b hb).2
  refine ⟨h1, h2, fun o hm => ?_⟩
  rcases List.mem_cons.1 hm with hm | hm
  · injection hm with hm _; omega
  · exact h3 o hm
theorem CI.put (i : Nat) {b : Nat} {o o' : AObj} (hi : xs[i]? = some (b, o)) : CI E G n bD bS (H.put b o') G' L Y net g W cs vW (xs.set i (b, o')) := by
  obtain ⟨h1, h2, h3⟩ := c.bx.at i hi
  have hmem := List.mem_of_getElem? hi
  refine ⟨c.V.put h1 h3 h2, c.hL, c.hP, c.bx.put i hi, c.own.at fun d q hd hg => ?_, fun d hd => ?_, c.sub⟩
  · rw [get_put, if_neg (fun e => (c.ow d hd).2.2 o (by rw [← e]; exact hmem))]; exact hg
  · obtain ⟨h4, h5, h6⟩ := c.ow d hd
    refine ⟨h4, h5, fun q hq => ?_⟩
    rcases List.mem_or_eq_of_mem_set hq with hq | hq
    · exact h6 q hq
    · injection hq with hq _; subst hq; exact h6 o hmem
theorem CI.drop (k : Nat) : CI E G n bD bS H G' L Y net g W cs vW (xs.drop k) :=
  ⟨c.V, c.hL, c.hP, ⟨fun b o h => c.bx.get b o (List.mem_of_mem_drop h), fun b o h => c.bx.out b o (List.mem_of_mem_drop h), by rw [List.map_drop]; exact c.bx.nd.sublist (List.drop_sublist _ _)⟩, c.own, fun b hb => ⟨(c.ow b hb).1, (c.ow b hb).2.1, fun o h => (c.ow b hb).2.2 o (List.mem_of_mem_drop h)⟩, c.sub⟩
theorem CI.app {H2 : Heap} {W2 : List Ent} {v2 : Value} (a : Apd E H H2 56 3 0 W2.length (entsC W2) vW v2) : CI E G n bD bS H2 G' L Y net g W2 cs v2 xs := by
  have hs : SO E G' H (fun b => b ∈ slB vW) := ⟨c.V.so.wf, c.V.so.frz, fun b d hb hx => (by rw [(c.ow b hx).2.1] at hb; cases hb), fun b hx => (c.own.lt c.V.so.wf b hx).2⟩
  have p := PX.app hs a fun b hb => hb
  have hW := c.V.so.wf
  refine ⟨c.V.other p fun x hx hz => (c.ow x hz).1 hx, c.hL, c.hP, ⟨fun b o h => a.get _ _ (c.bx.get b o h) fun hz => (c.ow b hz).2.2 o h, c.bx.out, c.bx.nd⟩, a.own, fun b hb => ?_, c.sub⟩
  rcases a.blk b hb with h1 | h1
  · exact c.ow b h1
  · exact ⟨fun hx => by have := c.V.so.lt _ hx; omega, c.V.so.gnone h1, fun o h => by have := (hW.live _ _ (c.bx.get b o h)).2; omega⟩
end
/-- What the clients asked so far. -/
structure CW (n : Nat) (g : Nat → PR) (W : List Ent) (S : List Nat) (i : Nat) : Prop where
  cg : CG n g W
  cb : CB n W
  len : W.length = i
  s4 : S.length = 4
  si : ∀ j, S.getD j 0 ≤ i
  ws : ∀ e, e ∈ W → 1 ≤ e.c ∧ e.c ≤ 4 ∧ 1 ≤ e.n ∧ e.n ≤ S.getD (e.c - 1) 0
theorem CW.next {n : Nat} {g g' : Nat → PR} {W : List Ent} {S : List Nat} {i c : Nat} (w : CW n g W S i) (hi : i < 60) (hc : c < 4) : CB n (W ++ [⟨1 + c, S.getD c 0 + 1, "t".toByteArray⟩]) ∧ (CG n g' (W ++ [⟨1 + c, S.getD c 0 + 1, "t".toByteArray⟩]) → CW n g' (W ++ [⟨1 + c, S.getD c 0 + 1, "t".toByteArray⟩]) (S.set c (S.getD c 0 + 1)) (i + 1)) := by
  have hs := w.si c
  have h4 := w.s4
  have hg : ∀ j, (S.set c (S.getD c 0 + 1)).getD j 0 = if j = c then S.getD c 0 + 1 else S.getD j 0 := by
    intro j
    rw [List.getD_eq_getElem?_getD, List.getElem?_set]
    by_cases h : c = j
    · subst h; rw [if_pos rfl, if_pos rfl, if_pos (by omega)]; rfl
    · rw [if_neg h, if_neg (fun e => h e.symm), List.getD_eq_getElem?_getD]
  have hb : CB n (W ++ [⟨1 + c, S.getD c 0 + 1, "t".toByteArray⟩]) := by
    refine ⟨w.cb.n, by have := w.len; simp; omega, ?_, fun e he => ?_⟩
    · refine List.pairwise_append.2 ⟨w.cb.inc, by simp, fun a ha b hb hab => ?_⟩
      simp only [List.mem_singleton] at hb
      subst hb
      obtain ⟨h1, h2, h3, h5⟩ := w.ws a ha
      simp only at hab ⊢
      rw [hab, show 1 + c - 1 = c by omega] at h5
      omega
    · rcases List.mem_append.1 he with h1 | h1
      · exact w.cb.ent e h1
      · simp only [List.mem_singleton] at h1
        subst h1
        simp only; omega
  refine ⟨hb, fun cg => ⟨cg, hb, by have := w.len; simp; omega, by simp [h4], fun j => ?_, fun e he => ?_⟩⟩
  · rw [hg]
    have := w.si j
    split <;> omega
  · rcases List.mem_append.1 he with h1 | h1
    · obtain ⟨h2, h3, h5, h6⟩ := w.ws e h1
      refine ⟨h2, h3, h5, ?_⟩
      rw [hg]
      split
      · rename_i hh; rw [hh] at h6; omega
      · exact h6
    · simp only [List.mem_singleton] at h1
      subst h1
      simp only
      rw [hg, if_pos (by omega)]
      omega
variable {E : Env} (hE : EOk E)
include hE
section
variable {G G' : Mem} {n bD bS : Nat} {H : Heap} {L : List Rr} {Y : Nat → Prop} {net : List Mg} {g : Nat → PR} {W : List Ent} {cs : List Value} {vW : Value} {xs : List (Nat × AObj)} (c : CI E G n bD bS H G' L Y net g W cs vW xs)
include c
theorem act_ci {k : Nat} (hk : k < n) {m : Mg} {ms : List Value} (hm : MgR E G' m ms) (hs : stepOk (g k) m) : CallsTo E 12 [.agg cs.toArray, iv k, .agg (iv 0 :: iv 0 :: ms).toArray] H fun v h' => ∃ G2 L2 Y2 cs2,
    CI E G n bD bS h' G2 L2 Y2 (addNet net (stepP (g k) m).2) (fun j => if j = k then (stepP (g k) m).1 else g j) W cs2 vW xs ∧ v = .tuple #[.agg cs2.toArray, .bool true] := by
  obtain ⟨ar, har⟩ : ∃ ar, L[k]? = some ar := ⟨_, List.getElem?_eq_getElem (by rw [c.hL]; exact hk)⟩
  have haP := c.hP _ _ har
  have hact := act_gv hE c.V har (dk := 0) (nk := 0) (.inl rfl) (by omega) hm (P' := (stepP (g k) m).1) (out := (stepP (g k) m).2) hs.2.2.2.2.2.2.2.1
    (fun s q hp hm1 => by rw [← haP] at hs ⊢; exact deedOk hE s q hp hm1 hs)
    (fun w f hp hm1 => by
      rw [← haP] at hs ⊢
      unfold outC
      rw [if_pos rfl]
      refine (modelOk hE w f hp hm1 hs).mono ?_
      rintro v h' ⟨G', rc', co, v2, x, _, z, r, rfl⟩
      exact ⟨G', _, co, v2, x, z, r, rfl⟩)
  refine hact.mono ?_
  rintro v h' ⟨G2, b, Y2, cs2, px, V2, hb, rfl⟩
  refine ⟨G2, L.set k b, Y2, cs2, c.move px V2 (by rw [List.length_set]; exact c.hL) fun j a hj => ?_, rfl⟩
  rcases set_get har hj with ⟨h1, h2⟩ | ⟨h1, h2⟩
  · subst h1; subst h2
    rw [hb]
    simp only [if_true]
  · rw [c.hP j a h2]
    simp [h1]
theorem deliver_ci (hn : n ≤ 7) {k : Nat} {g' : Nat → PR} (hk : k ≤ 4000) (hD : Dlv n g net k g') : CallsTo E 13 [.agg cs.toArray] H fun v h' => ∃ G2 L2 Y2 cs2,
    CI E G n bD bS h' G2 L2 Y2 [] g' W cs2 vW xs ∧ v = .tuple #[.agg cs2.toArray, .bool true] := by
  refine (deliver_at hE c.V hn c.hL c.hP rfl hk hD).mono ?_
  rintro v h' ⟨G2, L2, Y2, cs2, px, V2, hL2, hP2, rfl⟩
  exact ⟨G2, L2, Y2, cs2, c.move px V2 hL2 hP2, rfl⟩
theorem idle_ci (hn : 0 < n) (z : (g 0).Sz) (hst : (g 0).st = 0) (hp : (g 0).prim = true) (hcm : (g 0).op = (g 0).cm) (hol : (idle (g 0)).length ≤ 1000000 ∧ ∀ m, m ∈ idle (g 0) → m.log.length ≤ 1000000) {ms : List Value} (hm : MgR E G' {} ms) : CallsTo E 12 [.agg cs.toArray, iv 0, .agg (iv 11 :: iv 0 :: ms).toArray] H fun v h' => ∃ G2 L2 Y2 cs2,
    CI E G n bD bS h' G2 L2 Y2 (addNet net (idle (g 0))) g W cs2 vW xs ∧ v = .tuple #[.agg cs2.toArray, .bool true] := by
  obtain ⟨ar, har⟩ : ∃ ar, L[0]? = some ar := ⟨_, List.getElem?_eq_getElem (by rw [c.hL]; exact hn)⟩
  have haP := c.hP _ _ har
  have hact := act_gv hE c.V har (dk := 11) (nk := 0) (.inr (.inr (.inl rfl))) (by omega) hm (P' := g 0) (out := idle (g 0)) hol.1
    (fun s q hp1 hm1 => by
      rw [← haP] at z hst hp hcm hol ⊢
      refine (doI_at hE s q hp1 hm1 z hst hp hcm hol).mono ?_
      rintro v h' ⟨G3, X3, px, q3, rfl⟩
      exact ⟨G3, X3, _, px, q3, hp1.sub px.sub, rfl⟩)
    (fun w f hp1 hm1 => by
      rw [← haP] at z hst hp hcm ⊢
      unfold outC
      rw [if_neg (by omega), if_neg (by omega), if_pos rfl]
      exact idleR_at hE w f hp1 z hst hp hcm)
  refine hact.mono ?_
  rintro v h' ⟨G2, b, Y2, cs2, px, V2, hb, rfl⟩
  refine ⟨G2, L.set 0 b, Y2, cs2, c.move px V2 (by rw [List.length_set]; exact c.hL) fun j a hj => ?_, rfl⟩
  rcases set_get har hj with ⟨h1, h2⟩ | ⟨h1, h2⟩
  · subst h1; subst h2
    exact hb
  · exact c.hP j a h2
end
section
variable {G : Mem} {h : Heap} (hW : WF E h) (hG : Frz E G h)
include hW hG
set_option maxHeartbeats 4000000 in
theorem calm_at {f : Int} {cl : List UInt8} {v : Value} (hv : Sl E G 1 cl.length (bytesC cl) v) : CallsTo E 4 [.int .i64 f, v] h fun r h' => r = .bool true := by
  obtain ⟨av, cv, rfl, _⟩ := hv.slice
  have s0 := SO.nobody hW hG
  obtain ⟨m, hm, hm4⟩ : ∃ m : Nat, f % 4 = (m : Int) ∧ m < 4 := ⟨(f % 4).toNat, by omega, by omega⟩
  obtain ⟨fn, hfn⟩ : ∃ fn, fn = 1 + m % 3 := ⟨_, rfl⟩
  have e1 : IntKind.i64.wrap (1 + (m : Int).tmod 3) = (fn : Int) := by
    have h1 : (m : Int).tmod 3 = ((m % 3 : Nat) : Int) := by rw [Int.tmod_eq_emod_of_nonneg (by omega)]; omega
    rw [h1, wr64 (by omega) (by omega)]; omega
  obtain ⟨n, hn⟩ : ∃ n, n = 2 * fn + 1 := ⟨_, rfl⟩
  have hn3 : n = 3 ∨ n = 5 ∨ n = 7 := by omega
  refine calls_of_runs (fn := Tryz.f4) (by rw [hE.P]; exact Tryz.func4) rfl (by rw [hE.known]; rfl) (by rw [Tryz.ntmps4]; exact Nat.le_of_ble_eq_true rfl) (by decide +kernel) (rs := [.tmp 4]) rfl (wpc_runs _ _ _ _ ?_)
  simp only [push_cast, seval, hE.P, awrite, wpc_label, wpc_block]
  refine (awake_at hE s0).mono ?_
  rintro v1 H1 ⟨rfl, G1, X1, p1⟩
  simp only [push_cast, seval, hE.P, awrite, wpc_label, wpc_block, andi3, hm, e1]
  refine (group_at hE p1.so.wf p1.so.frz hn3 hn).mono ?_
  rintro v2 H2 ⟨G2, L, Y, bD, bS, cs, p2, V2, hL, hP, rfl⟩
  have u0 := p2.so.wf.b0
  obtain ⟨aL, cL, aN, cN, rfl⟩ := V2.sl
  by_cases hlen : cl.length ≤ 60
  · have hd : decide ((60 : Int) < (cl.length : Int)) = false := by simp; omega
    have u1 := p2.so.wf.b1
    simp only [push_cast, seval, hE.P, awrite, wpc_label, wpc_block, u0, u1, hd]
    have hG2 : Sub G G2 := p1.sub.trans p2.sub
    have c0 : CI E G n bD bS H2 G2 L Y [] (fun i => PR.new i n) [] [.slice aL L.length cL, .slice (some ⟨bD, 0, none⟩) (List.replicate n false).length (List.replicate n false).length, .slice aN 0 cN, .slice (some ⟨bS, 0, none⟩) 9 9, iv 0] (.slice none 0 0) [] := ⟨V2, hL, hP, BX.nil, Own.nil _ _ _ _, fun b hb => by simp [slB] at hb, hG2⟩
    have c1 := (c0.new (o := .cells [.slice aL L.length cL, .slice (some ⟨bD, 0, none⟩) (List.replicate n false).length (List.replicate n false).length, .slice aN 0 cN, .slice (some ⟨bS, 0, none⟩) 9 9, iv 0] 29 true)).new (o := .cells [.int .i64 0, .int .i64 0, .int .i64 0, .int .i64 0] 54 true)
    have w0 : CW n (fun i => PR.new i n) [] [0, 0, 0, 0] 0 := ⟨CG.new (fun i _ => rfl) (by omega), ⟨hn3, by simp, List.Pairwise.nil, fun e he => by simp at he⟩, rfl, rfl, fun j => by
      match j with
      | 0 => simp
      | 1 => simp
      | 2 => simp
      | 3 => simp
      | j + 4 => simp, fun e he => by simp at he⟩
    refine wpc_loop (fun kk tm H => ∃ i G' L' Y' g W S cs' vW, kk = cl.length - i ∧ i ≤ cl.length ∧ CW n g W S i ∧ fget tm 1 = .slice av cl.length cv ∧ fget tm 5 = ptr H2.next ∧ fget tm 7 = vW ∧ fget tm 8 = ptr (H2.next + 1) ∧ fget tm 9 = iv i ∧
      CI E G n bD bS H G' L' Y' [] g W cs' vW [(H2.next + 1, .cells (intsC S) 54 true), (H2.next, .cells cs' 29 true)]) cl.length ?_ ?_
    · simp only [push_cast, seval, hE.P, awrite, wpc_label, wpc_block]
      exact ⟨0, G2, L, Y, _, [], [0, 0, 0, 0], _, _, rfl, Nat.zero_le _, w0, rfl, rfl, c1⟩
    · rintro kk tm H ⟨i, G', L', Y', g, W, S, cs', vW, rfl, hi, w, r1, r5, r7, r8, r9, c⟩
      obtain ⟨aL', cL', aN', cN', hcs'⟩ := c.V.sl
      subst hcs'
      obtain ⟨g8, o8⟩ := c.bx.at 0 rfl
      obtain ⟨g5, o5⟩ := c.bx.at 1 rfl
      have n8 := c.V.so.wf.nlt g8
      have n5 := c.V.so.wf.nlt g5
      by_cases hlt : i < cl.length
      · have hd : decide ((i : Int) < (cl.length : Int)) = true := by simp; omega
        obtain ⟨b1, d1, e2, hsp, hac⟩ := (hv.sub c.sub).elem c.V.so.frz hlt
        injection e2 with e2 _ e2'
        subst e2; subst e2'
        obtain ⟨ch, hch⟩ : ∃ ch, cl[i] = ch := ⟨_, rfl⟩
        have hbc : ((bytesC cl).drop (i * 1)).take 1 = [.int .u8 (ch.toNat : Int)] := by
          rw [Nat.mul_one, ← hch]
          unfold bytesC
          rw [← List.map_drop, ← List.map_take, List.drop_eq_getElem_cons hlt, List.take_succ_cons, List.take_zero]
          rfl
        rw [hbc, Nat.mul_one] at hac
        obtain ⟨cc, hcc⟩ : ∃ cc, cc = ch.toNat % 4 := ⟨_, rfl⟩
        have hc4 : cc < 4 := by rw [hcc]; exact Nat.mod_lt _ (by omega)
        have hbb : bits .and .u8 (ch.toNat : Int) 3 = (cc : Int) := by rw [hcc]; exact andb3 ch.toNat_lt
        have hbw : IntKind.i64.wrap (cc : Int) = (cc : Int) := wr64 (by omega) (by omega)
        simp only [push_cast, seval, hE.P, awrite, wpc_label, wpc_block, r1, r5, r7, r8, r9, hd]
        rw [ia53 hsp (by omega) (by omega), kpure_some]
        simp only [push_cast, seval, hE.P, awrite, wpc_label, wpc_block, r1, r5, r7, r8, r9, ↓hac, Int.toNat_natCast, hbb, hbw]
        rw [ia4 rfl hc4, kpure_some]
        have hrd : acells E H ⟨H2.next + 1, cc, none⟩ 1 = some [iv (S.getD cc 0)] := int_read (rest := []) c.V.so.wf (by simpa using g8) (by rw [w.s4]; exact hc4)
        obtain ⟨ns, hns⟩ : ∃ ns, ns = S.getD cc 0 + 1 := ⟨_, rfl⟩
        have hwr : awrite H ⟨H2.next + 1, cc, none⟩ [iv ns] = some (H.put (H2.next + 1) (.cells (intsC (S.set cc ns) ++ []) 54 true)) := int_write (rest := []) (by simpa using g8) (by rw [w.s4]; exact hc4)
        have hs60 := w.si cc
        have hw1 : IntKind.i64.wrap ((S.getD cc 0 : Nat) + 1 : Int) = (ns : Int) := by
          rw [wr64 (by omega) (by omega), hns]; rfl
        simp only [push_cast, seval, hE.P, awrite, wpc_label, wpc_block, r1, r5, r7, r8, r9, ↓hrd, hw1]
        rw [ia4 rfl hc4, kpure_some]
        obtain ⟨k1, hk1⟩ : ∃ k1, k1 = 1 + cc := ⟨_, rfl⟩
        have hw2 : IntKind.i64.wrap (1 + (cc : Int)) = (k1 : Int) := by rw [wr64 (by omega) (by omega), hk1]; omega
        simp only [push_cast, seval, hE.P, wpc_label, wpc_block, r1, r5, r7, r8, r9, ↓hrd, hw1, hwr, hw2]
        have c2 := c.put 0 (o' := .cells (intsC (S.set cc ns) ++ []) 54 true) rfl
        rw [List.append_nil] at c2
        refine gtm (motive := fun t => kpure _ _ _ t) [1, 5, 7, 8, 9, 10, 54] fun t2 hf => ?_
        simp only [push_cast, seval, hE.P, awrite, wpc_label, wpc_block, List.mem_cons, List.not_mem_nil, or_false, forall_eq_or_imp, forall_eq, r1, r5, r7, r8, r9] at hf
        obtain ⟨q1, q5, q7, q8, q9, q10, q54⟩ := hf
        refine gheap (motive := fun H => kpure _ _ _ _ H) (fun H => CI E G n bD bS H G' L' Y' [] g W [.slice aL' L'.length cL', .slice (some ⟨bD, 0, none⟩) (List.replicate n false).length (List.replicate n false).length, .slice aN' 0 cN', .slice (some ⟨bS, 0, none⟩) 9 9, iv 0] vW [(H2.next + 1, .cells (intsC (S.set cc ns)) 54 true), (H2.next, .cells [.slice aL' L'.length cL', .slice (some ⟨bD, 0, none⟩) (List.replicate n false).length (List.replicate n false).length, .slice aN' 0 cN', .slice (some ⟨bS, 0, none⟩) 9 9, iv 0] 29 true)]) c2 ?_
        clear c2 hwr
        rintro H3 c3
        have g83 := (c3.bx.at 0 rfl).1
        have hrd3 : acells E H3 ⟨H2.next + 1, cc, none⟩ 1 = some [iv ns] := by
          have := int_read (E := E) (L := S.set cc ns) (rest := []) (i := cc) c3.V.so.wf (by simpa using g83) (by rw [List.length_set, w.s4]; exact hc4)
          rw [this, List.getD_eq_getElem?_getD, List.getElem?_set, if_pos rfl, if_pos (by rw [w.s4]; exact hc4)]; rfl
        rw [ia4 rfl hc4, kpure_some]
        simp only [push_cast, seval, hE.P, awrite, wpc_label, wpc_block, q1, q5, q7, q8, q9, q10, q54, ↓hrd3]
        refine (req_at hE c3.V.so.wf (to := 0) (c := k1) (n := ns) (by omega)).mono ?_
        rintro v4 H4 ⟨k4, ms, rfl, hms⟩
        obtain ⟨B1, D1, B2, D2, B3, D3, hmse, y1, y2, y3⟩ := (hms G).e
        have c4 := c3.kw k4
        subst hmse
        have v0 := c4.V.so.wf.b0
        have v1 := c4.V.so.wf.b1
        simp only [push_cast, seval, hE.P, awrite, wpc_label, wpc_block, q1, q5, q7, q8, q9, q10, v0, v1]
        have c5 := c4.new (o := .cells (mgC (reqM 0 k1 ns) (.slice B1 0 D1) (.slice B2 0 D2) (.slice B3 0 D3)) 62 true)
        have hWl := w.len
        rw [bs36 rfl, kalloc_some]
        simp only [push_cast, seval, hE.P, awrite, wpc_label, wpc_block, q1, q5, q7, q8, q9, q10, v0, v1]
        refine kwv_G1 (el36 hE.P) c5.V.so.wf (lo := 0) (Nat.zero_le _) c5.own rfl rfl (by omega) (by omega) ?_
        intro vW2 H6 a6 _
        have hlW : (W ++ [(⟨k1, ns, "t".toByteArray⟩ : Ent)]).length = W.length + 1 := by simp
        have heW : entsC (W ++ [(⟨k1, ns, "t".toByteArray⟩ : Ent)]) = entsC W ++ [iv (reqM 0 k1 ns).en.c, iv (reqM 0 k1 ns).en.n, .string (reqM 0 k1 ns).en.t] := by rw [entsC_app]; rfl
        have c6 := c5.app (W2 := W ++ [(⟨k1, ns, "t".toByteArray⟩ : Ent)]) (v2 := vW2) (by rw [hlW, heW]; exact a6)
        obtain ⟨cbn, cwn⟩ := w.next (g' := g) (by omega) hc4
        rw [← hk1, ← hns] at cbn
        have req0 := req0_step cbn w.cg (100 + k1)
        simp only [push_cast, seval, hE.P, awrite, wpc_label, wpc_block, q1, q5, q7, q8, q9, q10]
        refine wpc_loop (fun kk tm H => ∃ k kx G3 L3 Y3 g1 net1 csA, kk = n - k ∧ k ≤ n ∧ (k = 0 → g1 = g ∧ net1 = []) ∧ (0 < k → g1 0 = (request (g 0) (reqA 0 (⟨k1, ns, "t".toByteArray⟩ : Ent) (100 + k1))).1 ∧ net1 = addNet [] (request (g 0) (reqA 0 (⟨k1, ns, "t".toByteArray⟩ : Ent) (100 + k1))).2) ∧ (∀ i, 0 < i → i < n → g1 i = g i) ∧
          fget tm 1 = .slice (some b1) cl.length cv ∧ fget tm 5 = ptr H2.next ∧ fget tm 7 = vW2 ∧ fget tm 8 = ptr (H2.next + 1) ∧ fget tm 9 = iv i ∧ fget tm 11 = ptr H4.next ∧ fget tm 12 = iv k ∧
          CI E G n bD bS H G3 L3 Y3 net1 g1 (W ++ [(⟨k1, ns, "t".toByteArray⟩ : Ent)]) csA vW2 [(H4.next, .cells (mgC (reqM kx k1 ns) (.slice B1 0 D1) (.slice B2 0 D2) (.slice B3 0 D3)) 62 true), (H2.next + 1, .cells (intsC (S.set cc ns)) 54 true), (H2.next, .cells csA 29 true)]) n ?_ ?_
        · simp only [push_cast, seval, hE.P, awrite, wpc_label, wpc_block, q1, q5, q7, q8, q9, q10]
          exact ⟨0, 0, G', L', Y', g, [], _, rfl, Nat.zero_le _, fun _ => ⟨rfl, rfl⟩, fun h0 => absurd h0 (Nat.lt_irrefl 0), fun _ _ _ => rfl, rfl, c6⟩
        · rintro kk tm H7 ⟨k, kx, G3, L3, Y3, g1, net1, csA, rfl, hk, hk0, hk0', hkg, q1, q5, q7, q8, q9, q11, q12, c7⟩
          obtain ⟨aA, cA, aB, cB, hcsA⟩ := c7.V.sl
          subst hcsA
          have hL3 := c7.hL
          obtain ⟨g11, _⟩ := c7.bx.at 0 rfl
          obtain ⟨g5, _⟩ := c7.bx.at 2 rfl
          have n11 := c7.V.so.wf.nlt g11
          have n5 := c7.V.so.wf.nlt g5
          by_cases hlt7 : k < n
          · have hd7 : decide ((k : Int) < (L3.length : Int)) = true := by simp; omega
            have c8 := c7.put 0 (o' := .cells (mgC (reqM k k1 ns) (.slice B1 0 D1) (.slice B2 0 D2) (.slice B3 0 D3)) 62 true) rfl
            have e42 : (H4.next = H2.next) = False := by
              have := c7.bx.nd
              simp at this
              simp; omega
            simp only [push_cast, seval, hE.P, awrite, wpc_label, wpc_block, q1, q5, q7, q8, q9, q11, q12, g11, g5, n11, n5, hd7, e42]
            have hms8 : MgR E G3 (reqA k (⟨k1, ns, "t".toByteArray⟩ : Ent) (100 + k1)) (mgC (reqM k k1 ns) (.slice B1 0 D1) (.slice B2 0 D2) (.slice B3 0 D3)) := ⟨_, _, _, rfl, y1.sub c8.sub, y2.sub c8.sub, y3.sub c8.sub⟩
            have hok : stepOk (g1 k) (reqA k (⟨k1, ns, "t".toByteArray⟩ : Ent) (100 + k1)) ∧ (stepP (g1 k) (reqA k (⟨k1, ns, "t".toByteArray⟩ : Ent) (100 + k1)) = if k = 0 then request (g 0) (reqA 0 (⟨k1, ns, "t".toByteArray⟩ : Ent) (100 + k1)) else (g k, [])) := by
              by_cases h0 : k = 0
              · subst h0
                rw [(hk0 rfl).1, if_pos rfl]
                exact ⟨req0.2.2, req0.2.1⟩
              · rw [hkg k (by omega) hlt7, if_neg h0]
                have := reqB_step cbn ⟨by omega, hlt7⟩ (w.cg.p k (by omega) hlt7) (100 + k1)
                exact ⟨this.2, this.1⟩
            refine (act_ci hE c8 hlt7 hms8 hok.1).mono ?_
            rintro v9 H9 ⟨G9, L9, Y9, cs9, c9, rfl⟩
            rw [hok.2] at c9
            obtain ⟨aX, cX, aZ, cZ, hcs9⟩ := c9.V.sl
            subst hcs9
            have hL9 := c9.hL
            have g59 := (c9.bx.at 2 rfl).1
            have g119 := (c9.bx.at 0 rfl).1
            have u0 := c9.V.so.wf.b0
            have u1 := c9.V.so.wf.ne g59
            have u2 := c9.V.so.wf.ne' g59
            have c10 := (c9.kw ((KW.refl c9.V.so.wf).push (o := .cells [.slice aX L9.length cX, .slice (some ⟨bD, 0, none⟩) (List.replicate n false).length (List.replicate n false).length, .slice aZ (addNet net1 (if k = 0 then request (g 0) (reqA 0 (⟨k1, ns, "t".toByteArray⟩ : Ent) (100 + k1)) else (g k, [])).2).length cZ, .slice (some ⟨bS, 0, none⟩) 9 9, iv 0] 29 true))).put 2 (o' := .cells [.slice aX L9.length cX, .slice (some ⟨bD, 0, none⟩) (List.replicate n false).length (List.replicate n false).length, .slice aZ (addNet net1 (if k = 0 then request (g 0) (reqA 0 (⟨k1, ns, "t".toByteArray⟩ : Ent) (100 + k1)) else (g k, [])).2).length cZ, .slice (some ⟨bS, 0, none⟩) 9 9, iv 0] 29 true) rfl
            simp only [push_cast, seval, hE.P, awrite, wpc_label, wpc_block, q1, q5, q7, q8, q9, q11, q12, g59, n5, u0, u1, u2]
            refine ⟨n - (k + 1), by omega, k + 1, k, G9, L9, Y9, _, _, _, rfl, by omega, fun h0 => absurd h0 (by omega), ?_, ?_, iv_succ (by omega), c10⟩
            · intro _
              by_cases h0 : k = 0
              · subst h0
                simp only [if_true]
                rw [(hk0 rfl).2]
                exact ⟨trivial, rfl⟩
              · rw [if_neg (by omega), if_neg h0]
                obtain ⟨h1, h2⟩ := hk0' (by omega)
                rw [h1, h2, addNet_nil]
                exact ⟨rfl, rfl⟩
            · intro j h1 h2
              by_cases h3 : j = k
              · subst h3
                rw [if_pos rfl, if_neg (by omega)]
              · rw [if_neg h3]
                exact hkg j h1 h2
          · have hd7 : decide ((k : Int) < (L3.length : Int)) = false := by simp; omega
            simp only [push_cast, seval, hE.P, awrite, wpc_label, wpc_block, q1, q5, q7, q8, q9, q11, q12, g11, g5, n11, n5, hd7]
            obtain ⟨f0, f1⟩ := hk0' (by omega)
            obtain ⟨kD, g', hkD, hDl, hcg⟩ := round cbn w.cg (100 + k1) f0 hkg
            rw [← f1] at hDl
            refine (deliver_ci hE c7 (by omega) (by omega) hDl).mono ?_
            rintro v9 H9 ⟨G9, L9, Y9, cs9, c9, rfl⟩
            obtain ⟨aX, cX, aZ, cZ, hcs9⟩ := c9.V.sl
            subst hcs9
            have g59 := (c9.bx.at 2 rfl).1
            have c10 := (c9.put 2 (o' := .cells [.slice aX L9.length cX, .slice (some ⟨bD, 0, none⟩) (List.replicate n false).length (List.replicate n false).length, .slice aZ 0 cZ, .slice (some ⟨bS, 0, none⟩) 9 9, iv 0] 29 true) rfl).drop 1
            obtain ⟨_, cwn⟩ := w.next (g' := g') (by omega) hc4
            rw [← hk1, ← hns] at cwn
            simp only [push_cast, seval, hE.P, awrite, wpc_label, wpc_block, q1, q5, q7, q8, q9, q11, q12, g59, n5]
            exact ⟨cl.length - (i + 1), by omega, i + 1, G9, L9, Y9, g', W ++ [(⟨k1, ns, "t".toByteArray⟩ : Ent)], S.set cc ns, _, vW2, rfl, by omega, cwn hcg, rfl, iv_succ (by omega), c10⟩
      · have hd : decide ((i : Int) < (cl.length : Int)) = false := by simp; omega
        simp only [push_cast, seval, hE.P, awrite, wpc_label, wpc_block, r1, r5, r7, r8, r9, hd, g5, n5]
        obtain ⟨z0, st0, pr0, oc0, hid⟩ := idle_step w.cb w.cg
        have hids : (idle (g 0)).length ≤ 1000000 ∧ ∀ m, m ∈ idle (g 0) → m.log.length ≤ 1000000 := by
          rw [hid]
          refine ⟨by simp; omega, fun m hm => ?_⟩
          obtain ⟨j, _, rfl⟩ := List.mem_map.1 hm
          show 0 ≤ 1000000; omega
        refine (idle_ci hE c (by omega) z0 st0 pr0 oc0 hids (ms := mgC {} (.slice none 0 0) (.slice none 0 0) (.slice none 0 0)) ⟨_, _, _, rfl, Fz.nil, Fz.nil, Fz.nil⟩).mono ?_
        rintro v4 H4 ⟨G4, L4, Y4, cs4, c4, rfl⟩
        obtain ⟨aX, cX, aZ, cZ, hcs4⟩ := c4.V.sl
        subst hcs4
        have g54 := (c4.bx.at 1 rfl).1
        have v0 := c4.V.so.wf.b0
        have v1 := c4.V.so.wf.ne g54
        have v2 := c4.V.so.wf.ne' g54
        simp only [push_cast, seval, hE.P, awrite, wpc_label, wpc_block, r1, r5, r7, r8, r9, g54, n5, v0, v1, v2]
        have c5 := c4.kw ((KW.refl c4.V.so.wf).push (o := .cells [.slice aX L4.length cX, .slice (some ⟨bD, 0, none⟩) (List.replicate n false).length (List.replicate n false).length, .slice aZ (addNet [] (idle (g 0))).length cZ, .slice (some ⟨bS, 0, none⟩) 9 9, iv 0] 29 true))
        obtain ⟨kD, g', hkD, hDl, hend⟩ := ends w.cb w.cg
        refine (deliver_ci hE c5 (by omega) (by omega) hDl).mono ?_
        rintro v5 H5 ⟨G5, L5, Y5, cs5, c6, rfl⟩
        obtain ⟨aU, cU, aT, cT, hcs5⟩ := c6.V.sl
        subst hcs5
        have hL5 := c6.hL
        have g56 := (c6.bx.at 1 rfl).1
        have c7 := c6.put 1 (o' := .cells [.slice aU L5.length cU, .slice (some ⟨bD, 0, none⟩) (List.replicate n false).length (List.replicate n false).length, .slice aT 0 cT, .slice (some ⟨bS, 0, none⟩) 9 9, iv 0] 29 true) rfl
        simp only [push_cast, seval, hE.P, awrite, wpc_label, wpc_block, r1, r5, r7, r8, r9, g56, n5]
        refine gtm (motive := wpc E _ _) [5, 7, 17] fun t7 hf => ?_
        simp only [push_cast, seval, hE.P, awrite, wpc_label, wpc_block, List.mem_cons, List.not_mem_nil, or_false, forall_eq_or_imp, forall_eq, r5, r7] at hf
        obtain ⟨q5, q7, q17⟩ := hf
        refine gheap (motive := fun H => wpc E _ _ _ H) (fun H => CI E G n bD bS H G5 L5 Y5 [] g' W [.slice aU L5.length cU, .slice (some ⟨bD, 0, none⟩) (List.replicate n false).length (List.replicate n false).length, .slice aT 0 cT, .slice (some ⟨bS, 0, none⟩) 9 9, iv 0] vW [(H2.next + 1, .cells (intsC S) 54 true), (H2.next, .cells [.slice aU L5.length cU, .slice (some ⟨bD, 0, none⟩) (List.replicate n false).length (List.replicate n false).length, .slice aT 0 cT, .slice (some ⟨bS, 0, none⟩) 9 9, iv 0] 29 true)]) c7 ?_
        clear c7 g56
        rintro H6 c7
        have g57 := (c7.bx.at 1 rfl).1
        have n57 := c7.V.so.wf.nlt g57
        obtain ⟨G6, zW, s6, f6, y6⟩ := c7.own.still c7.V.so.wf c7.V.so.frz
        refine wpc_loop (fun kk tm H => ∃ k, kk = n - k ∧ k ≤ n ∧ fget tm 5 = ptr H2.next ∧ fget tm 7 = vW ∧ fget tm 17 = iv k ∧ H = H6) n ?_ ?_
        · simp only [push_cast, seval, hE.P, awrite, wpc_label, wpc_block, q5, q7, q17]
          exact ⟨0, rfl, Nat.zero_le _, rfl⟩
        · rintro kk tm H ⟨k, rfl, hk, q5, q7, q17, rfl⟩
          by_cases hltk : k < n
          · have hd7 : decide ((k : Int) < (L5.length : Int)) = true := by simp; omega
            obtain ⟨vL7, vN7, hcs7, gs7⟩ := c7.V.e
            injection hcs7 with hvL7 _
            obtain ⟨ar, har⟩ : ∃ ar, L5[k]? = some ar := ⟨_, List.getElem?_eq_getElem (by omega)⟩
            have hmem := List.mem_of_getElem? har
            obtain ⟨bL, cap, e7, hnode⟩ := gs7.node har
            rw [← hvL7] at e7
            injection e7 with e7 _ e7'
            subst e7; subst e7'
            have p0 := acells_part hnode 0 1 (by omega)
            have p1 := acells_part hnode 1 1 (by omega)
            simp only [Rr.c, List.drop_succ_cons, List.drop_zero, List.take_succ_cons, List.take_zero, Nat.add_zero] at p0 p1
            have hP7 := c7.hP _ _ har
            obtain ⟨hl7, hv7, hs7⟩ := hend k hltk
            rw [← hP7] at hl7 hv7 hs7
            have so7 := gs7.rs.so ar hmem
            have so8 : SO E G6 H ar.X := ⟨so7.wf, f6, fun b d hb hx => by
              rcases y6 b d hb with h1 | h1
              · exact so7.dis b d h1 hx
              · exact (c7.ow b h1).1 (.inl (.inr ⟨ar, hmem, hx⟩)), so7.lt⟩
            have q8 := (gs7.rs.qr ar hmem).keepX s6 (h' := H) fun b o _ hg => hg
            obtain ⟨D8, q8'⟩ := id q8
            obtain ⟨ss, gt8, hss⟩ := q8'.ht
            obtain ⟨A1, C1, A2, C2, ct2, rfl, x1, x2, x3⟩ := hss.e
            have nt := so8.wf.nlt gt8
            rw [hl7] at x1 gt8
            simp only [push_cast, seval, hE.P, awrite, wpc_label, wpc_block, q5, q7, q17, g57, n57, hd7]
            rw [ia24 rfl (by omega) (by omega), kpure_some]
            simp only [push_cast, seval, hE.P, awrite, wpc_label, wpc_block, q5, q7, q17, g57, n57, ↓p1, Int.toNat_natCast, gt8, nt]
            refine (logs_at hE so8.wf so8.frz x1.1 zW.1 (by have := w.len; omega)).mono ?_
            rintro v8 H8 ⟨rfl, hH8⟩
            subst hH8
            simp only [push_cast, seval, hE.P, awrite, wpc_label, wpc_block, q5, q7, q17, g57, n57]
            rw [ia24 rfl (by omega) (by omega), kpure_some]
            simp only [push_cast, seval, hE.P, awrite, wpc_label, wpc_block, q5, q7, q17, g57, n57, ↓p0, Int.toNat_natCast]
            refine (getView_at hE so8 q8).mono ?_
            rintro v8 H8 ⟨rfl, hH8⟩
            subst hH8
            have c0 : (((0 : Nat) : Int) != 0) = false := by decide
            rw [hv7]
            simp only [push_cast, seval, hE.P, awrite, wpc_label, wpc_block, q5, q7, q17, g57, n57, c0]
            rw [ia24 rfl (by omega) (by omega), kpure_some]
            simp only [push_cast, seval, hE.P, awrite, wpc_label, wpc_block, q5, q7, q17, g57, n57, ↓p0, Int.toNat_natCast]
            refine (getStatus_at hE so8 q8).mono ?_
            rintro v8 H8 ⟨rfl, hH8⟩
            subst hH8
            rw [hs7]
            simp only [push_cast, seval, hE.P, awrite, wpc_label, wpc_block, q5, q7, q17, g57, n57, c0]
            exact ⟨n - (k + 1), by omega, k + 1, rfl, by omega, iv_succ (by omega)⟩
          · have hd7 : decide ((k : Int) < (L5.length : Int)) = false := by simp; omega
            simp only [push_cast, seval, hE.P, awrite, wpc_label, wpc_block, q5, q7, q17, g57, n57, hd7]
  · have hd : decide ((60 : Int) < (cl.length : Int)) = true := by simp; omega
    simp only [push_cast, seval, hE.P, awrite, wpc_label, wpc_block, u0, hd]
end
end Go.Proofs.YthdgobcpefcolaaGreatDoor
