/- The reader: what is next. -/
/- Merged by a program of ours: N7 N8. -/
import Derived.Test.YthfopcdammlmfaaGreatDoorN1
import Derived.Test.YthfopcdammlmfaaGreatDoorA9
set_option maxRecDepth 10000
set_option linter.all false
set_option linter.unusedSimpArgs false
set_option linter.unusedVariables false
/- The reader: a value, the walk. -/
namespace Go.Proofs.YthfopcdammlmfaaGreatDoor.G
open Go.Tm
def Fr1 (E : Env) (G : Mem) (h : Heap) (lo : Nat) (t : Fm) (c : List Value) (bs : List Nat) : Prop :=
 ∃ rv lv fv lc fc, c = [.int .i64 t.tag, rv, .string t.name, .int .i64 t.tag, .int .i64 0, .string .empty, lv, fv] ∧ Sl E G 1 t.refs.length (u64s t.refs) rv ∧
  Own h 25 5 lo t.l.length lc lv ∧ RepLs E G t.l lc ∧ Own h 91 6 lo t.f.length fc fv ∧ RepFs E G t.f fc ∧ bs = slB lv ++ slB fv
def Frs (E : Env) (G : Mem) (h : Heap) (lo : Nat) : List Fm → List Value → List Nat → Prop
 | [], cs, bs => cs = [] ∧ bs = []
 | t :: st, cs, bs => ∃ c0 c1 b0 b1, cs = c0 ++ c1 ∧ bs = b1 ++ b0 ∧ Frs E G h lo st c0 b0 ∧ Fr1 E G h lo t c1 b1
structure RdM (E : Env) (L : HL) (O : Om) (h0 : Heap) (rb : Nat) (left : Int) (st : List Fm) (G : Mem) (tm : Tr Value) (h : Heap) : Prop where
 rbl : rb < h0.next
 wf : WF E h
 frz : Frz E G h
 dom : ∀ b c, G b = some c → h0.next + 3 ≤ b
 lo : ∀ b o, b < rb → h0.get b = some o → h.get b = some o
 next : h0.next + 3 ≤ h.next
 rd : h.get rb = some (.cells [.pointer (some ⟨L.ph, 0, none⟩), .int .i64 left] 125 true)
 res : h.get h0.next = some (.cells [.int .i64 0, .int .i64 0, .string .empty, .slice none 0 0, .slice none 0 0] 25 true)
 ob : ∃ a b c, h.get (h0.next + 2) = some (.cells [a, b, c] 127 true)
 stk : ∃ sv cs bs, fget tm 6 = sv ∧ Own h 190 8 (h0.next + 3) st.length cs sv ∧ Frs E G h (h0.next + 3) st cs bs ∧ (slB sv ++ bs).Nodup ∧ ∀ b, b ∈ slB sv ++ bs → G b = none
 f0 : fget tm 0 = .pointer (some ⟨rb, 0, none⟩)
 f4 : fget tm 4 = .pointer (some ⟨h0.next, 0, none⟩)
 f7 : fget tm 7 = .pointer (some ⟨h0.next + 1, 0, none⟩)
 f8 : fget tm 8 = .pointer (some ⟨h0.next + 2, 0, none⟩)
theorem Frs.len {E : Env} {G : Mem} {h : Heap} {lo : Nat} : ∀ {st : List Fm} {cs : List Value} {bs : List Nat}, Frs E G h lo st cs bs → cs.length = st.length * 8
 | [], cs, bs, H => by obtain ⟨rfl, rfl⟩ := H; rfl
 | t :: st, cs, bs, H => by
   obtain ⟨c0, c1, b0, b1, rfl, rfl, h1, h2⟩ := H
   have := h1.len
   obtain ⟨rv, lv, fv, lc, fc, rfl, _⟩ := h2
   simp; omega
theorem Fr1.but {E : Env} {G G' : Mem} {h h' : Heap} {lo : Nat} {t : Fm} {c : List Value} {bs : List Nat} (s : Sub G G') (k : ∀ b o, b ∈ bs → h.get b = some o → h'.get b = some o) (H : Fr1 E G h lo t c bs) : Fr1 E G' h' lo t c bs := by
 obtain ⟨rv, lv, fv, lc, fc, h1, h2, h4, h5, h6, h7, rfl⟩ := H
 exact ⟨rv, lv, fv, lc, fc, h1, h2.sub s, h4.but fun b o hb => k b o (by simp [hb]), RepLs.sub s h5, h6.but fun b o hb => k b o (by simp [hb]), RepFs.sub s h7, rfl⟩
theorem Frs.but {E : Env} {G G' : Mem} {h h' : Heap} {lo : Nat} (s : Sub G G') : ∀ {st : List Fm} {cs : List Value} {bs : List Nat}, (∀ b o, b ∈ bs → h.get b = some o → h'.get b = some o) → Frs E G h lo st cs bs → Frs E G' h' lo st cs bs
 | [], cs, bs, k, H => H
 | t :: st, cs, bs, k, H => by
   obtain ⟨c0, c1, b0, b1, rfl, rfl, h1, h2⟩ := H
   exact ⟨c0, c1, b0, b1, rfl, rfl, Frs.but s (fun b o hb => k b o (by simp [hb])) h1, h2.but s fun b o hb => k b o (by simp [hb])⟩
theorem Fr1.live {E : Env} {G : Mem} {h : Heap} (hw : WF E h) {lo : Nat} {t : Fm} {c : List Value} {bs : List Nat} (H : Fr1 E G h lo t c bs) : ∀ b, b ∈ bs → lo ≤ b ∧ b < h.next := by
 obtain ⟨rv, lv, fv, lc, fc, h1, h2, h4, h5, h6, h7, rfl⟩ := H
 intro b hb
 rcases List.mem_append.1 hb with hb | hb
 ·exact h4.lt hw b hb
 ·exact h6.lt hw b hb
theorem Frs.live {E : Env} {G : Mem} {h : Heap} (hw : WF E h) {lo : Nat} : ∀ {st : List Fm} {cs : List Value} {bs : List Nat}, Frs E G h lo st cs bs → ∀ b, b ∈ bs → lo ≤ b ∧ b < h.next
 | [], cs, bs, H => by obtain ⟨rfl, rfl⟩ := H; simp
 | t :: st, cs, bs, H => by
   obtain ⟨c0, c1, b0, b1, rfl, rfl, h1, h2⟩ := H
   intro b hb
   rcases List.mem_append.1 hb with hb | hb
   ·exact h2.live hw b hb
   ·exact Frs.live hw h1 b hb
theorem stk_read {E : Env} {h : Heap} {sb k j m : Nat} {c0 c1 rest : List Value} {e : TypeId} {fx : Bool} (hnb : (sb < E.base) = False) (hg : h.get sb = some (.cells (c0 ++ (c1 ++ rest)) e fx)) (hc : c0.length = k * 8) (h1 : c1.length = 8) (hj : j + m ≤ 8) : acells E h ⟨sb, k * 8 + j, none⟩ m = some ((c1.drop j).take m) := by
 unfold acells
 simp only [hnb, if_false, hg]
 rw [if_pos (by simp; omega), ← hc, List.drop_length_add_append, List.drop_append_of_le_length (by omega), List.take_append_of_le_length (by simp; omega)]
theorem stk_write {h : Heap} {sb k j : Nat} {c0 c1 rest vs : List Value} {e : TypeId} {fx : Bool} (hg : h.get sb = some (.cells (c0 ++ (c1 ++ rest)) e fx)) (hc : c0.length = k * 8) (h1 : c1.length = 8) (hj : j + vs.length ≤ 8) (ho : vs.all Value.oneCell' = true) : awrite h ⟨sb, k * 8 + j, none⟩ vs = some (h.put sb (.cells (c0 ++ (splice c1 j vs ++ rest)) e fx)) := by
 unfold awrite
 simp only [hg]
 rw [if_pos ⟨by simp; omega, ho⟩, ← hc, splice_app (by omega)]
theorem RdM.top {E : Env} {L : HL} {O : Om} {h0 : Heap} {rb : Nat} {left : Int} {t : Fm} {s : List Fm} {G : Mem} {tm : Tr Value} {h : Heap} (M : RdM E L O h0 rb left (t :: s) G tm h) :
 ∃ sb cap rest fx c0 rv lv fv lc fc bs, fget tm 6 = .slice (some ⟨sb, 0, none⟩) (s.length + 1) cap ∧ s.length + 1 ≤ cap ∧ cap ≤ 9223372036854775807 ∧
  h.get sb = some (.cells (c0 ++ ([.int .i64 t.tag, rv, .string t.name, .int .i64 t.tag, .int .i64 0, .string .empty, lv, fv] ++ rest)) 190 fx) ∧ c0.length = s.length * 8 ∧ rest.length = (cap - (s.length + 1)) * 8 ∧
  Sl E G 1 t.refs.length (u64s t.refs) rv ∧ Own h 25 5 (h0.next + 3) t.l.length lc lv ∧ RepLs E G t.l lc ∧ Own h 91 6 (h0.next + 3) t.f.length fc fv ∧ RepFs E G t.f fc ∧
  Frs E G h (h0.next + 3) s c0 bs ∧ ([sb] ++ ((slB lv ++ slB fv) ++ bs)).Nodup ∧ (∀ b, b ∈ [sb] ++ ((slB lv ++ slB fv) ++ bs) → G b = none) ∧ h0.next + 3 ≤ sb ∧ (sb < E.base) = False := by
 obtain ⟨sv, cs, bs, f6, hown, hf, hnd, hGn⟩ := M.stk
 obtain ⟨c0, c1, b0, b1, rfl, rfl, hf1, hf2⟩ := hf
 have hl := hf1.len
 obtain ⟨rv, lv, fv, lc, fc, rfl, q2, q4, q5, q6, q7, rfl⟩ := hf2
 rcases hown with ⟨_, e, _⟩ | ⟨sb, cap, rest, fx, rfl, hg, e1, e2, e3, e4, e5⟩
 ·simp at e
 ·refine ⟨sb, cap, rest, fx, c0, rv, lv, fv, lc, fc, b0, f6, e3, e5, by rw [← List.append_assoc]; exact hg, hl, e2, q2, q4, q5, q6, q7, hf1, ?_, ?_, e4, M.wf.nlt hg⟩
  ·simpa [slB] using hnd
  ·simpa [slB] using hGn
theorem RdM.kept {E : Env} {L : HL} {O : Om} {h0 : Heap} {rb : Nat} {left : Int} {st : List Fm} {G : Mem} {tm : Tr Value} {h : Heap} (M : RdM E L O h0 rb left st G tm h) {W nS : Nat} {R : List Nat} (H : IsO E h0 L W nS R O) (hrb : ∀ b, b ∈ L.blocks → b < rb) : IsO E h L W nS R O :=
 H.keepLo hrb ⟨fun b o hb hg => M.lo b o hb hg, by have := M.next; omega⟩
theorem RdM.setTop {E : Env} {L : HL} {O : Om} {h0 : Heap} {rb : Nat} {left : Int} {t : Fm} {s : List Fm} {G : Mem} {tm : Tr Value} {h h1 : Heap} (M : RdM E L O h0 rb left (t :: s) G tm h) (kk : Keep h h1) (w1 : WF E h1)
 {sb cap : Nat} {rest : List Value} {fx : Bool} {c0 : List Value} {rv lv fv : Value} {lc fc : List Value} {bs : List Nat} (m1 : s.length + 1 ≤ cap) (m2 : cap ≤ 9223372036854775807)
 (hg : h.get sb = some (.cells (c0 ++ ([.int .i64 t.tag, rv, .string t.name, .int .i64 t.tag, .int .i64 0, .string .empty, lv, fv] ++ rest)) 190 fx)) (hc0 : c0.length = s.length * 8) (hrest : rest.length = (cap - (s.length + 1)) * 8)
 (q3 : Own h 25 5 (h0.next + 3) t.l.length lc lv) (q4 : RepLs E G t.l lc) (q5 : Own h 91 6 (h0.next + 3) t.f.length fc fv) (q6 : RepFs E G t.f fc) (hfs : Frs E G h (h0.next + 3) s c0 bs)
 (hnd : ([sb] ++ ((slB lv ++ slB fv) ++ bs)).Nodup) (hGn : ∀ b, b ∈ [sb] ++ ((slB lv ++ slB fv) ++ bs) → G b = none) (hsb : h0.next + 3 ≤ sb)
 {rv' : Value} {r' : List Nat} {nm' : ByteArray} (q1' : Sl E G 1 r'.length (u64s r') rv') {tm' : Tr Value} (f6' : fget tm' 6 = .slice (some ⟨sb, 0, none⟩) (s.length + 1) cap)
 (f0' : fget tm' 0 = .pointer (some ⟨rb, 0, none⟩)) (f4' : fget tm' 4 = .pointer (some ⟨h0.next, 0, none⟩)) (f7' : fget tm' 7 = .pointer (some ⟨h0.next + 1, 0, none⟩)) (f8' : fget tm' 8 = .pointer (some ⟨h0.next + 2, 0, none⟩)) :
 RdM E L O h0 rb left ({ t with refs := r', name := nm' } :: s) G tm' (h1.put sb (.cells (c0 ++ ([.int .i64 t.tag, rv', .string nm', .int .i64 t.tag, .int .i64 0, .string .empty, lv, fv] ++ rest)) 190 fx)) := by
 obtain ⟨d1, d2, d3, d4, d5, d6, d7⟩ := nd3 hnd
 have hk : ∀ b o, b ≠ sb → h.get b = some o → (h1.put sb (.cells (c0 ++ ([.int .i64 t.tag, rv', .string nm', .int .i64 t.tag, .int .i64 0, .string .empty, lv, fv] ++ rest)) 190 fx)).get b = some o := fun b o hb hgb => by
  rw [get_put, if_neg (by omega)]; exact kk.get _ _ hgb
 obtain ⟨oa, ob, oc, hob⟩ := M.ob
 have hrb := M.rbl
 refine ⟨M.rbl, w1.put (kk.get _ _ hg), M.frz.but fun b o hb hgb => ?_, M.dom, ?_, ?_, hk _ _ (by omega) M.rd, hk _ _ (by omega) M.res, ⟨oa, ob, oc, hk _ _ (by omega) hob⟩, ?_, f0', f4', f7', f8'⟩
 ·refine hk b o (fun e => ?_) hgb
  subst e
  rw [hGn _ (by simp)] at hb; cases hb
 ·intro b o hb hgb
  exact hk b o (by omega) (M.lo b o hb hgb)
 ·rw [next_put]; have := M.next; have := kk.next; omega
 ·refine ⟨_, _, [] ++ _, f6', .inr ⟨sb, cap, rest, fx, rfl, by rw [get_put, if_pos rfl, List.append_assoc], by simp; omega, by simpa using hrest, by simpa using m1, hsb, m2⟩, ⟨c0, [.int .i64 t.tag, rv', .string nm', .int .i64 t.tag, .int .i64 0, .string .empty, lv, fv], bs, slB lv ++ slB fv, rfl, rfl, ?_, ?_⟩, ?_, ?_⟩
  ·exact hfs.but (Sub.refl _) fun b o hb hgb => hk b o (d4 b hb) hgb
  ·exact ⟨rv', lv, fv, lc, fc, rfl, q1', q3.but fun b o hb hgb => hk b o (d2 b hb).2.1 hgb, q4, q5.but fun b o hb hgb => hk b o (d3 b hb).2.1 hgb, q6, rfl⟩
  ·simpa [slB] using hnd
  ·simpa [slB] using hGn
theorem RdM.setApp {E : Env} {L : HL} {O : Om} {h0 : Heap} {rb : Nat} {left : Int} {t t' : Fm} {s : List Fm} {G : Mem} {tm : Tr Value} {h h3 : Heap} (M : RdM E L O h0 rb left (t :: s) G tm h)
 {sb cap : Nat} {rest : List Value} {fx : Bool} {c0 : List Value} {rv lv fv lv' fv' : Value} {lc' fc' : List Value} {bs : List Nat} (m1 : s.length + 1 ≤ cap) (m2 : cap ≤ 9223372036854775807)
 (hc0 : c0.length = s.length * 8) (hrest : rest.length = (cap - (s.length + 1)) * 8)
 (q1 : Sl E G 1 t'.refs.length (u64s t'.refs) rv) (hfs : Frs E G h (h0.next + 3) s c0 bs) (hlo : ∀ b, b ∈ slB lv ++ slB fv → h0.next + 3 ≤ b)
 (hnd : ([sb] ++ ((slB lv ++ slB fv) ++ bs)).Nodup) (hGn : ∀ b, b ∈ [sb] ++ ((slB lv ++ slB fv) ++ bs) → G b = none) (hsb : h0.next + 3 ≤ sb) (hsb2 : sb < h.next)
 (hkp : ∀ b o, h.get b = some o → b ∉ slB lv → b ∉ slB fv → b ≠ sb → h3.get b = some o) (hg3 : h3.get sb = some (.cells (c0 ++ ([.int .i64 t'.tag, rv, .string t'.name, .int .i64 t'.tag, .int .i64 0, .string .empty, lv', fv'] ++ rest)) 190 fx)) (w3 : WF E h3) (hn3 : h.next ≤ h3.next)
 (q3 : Own h3 25 5 (h0.next + 3) t'.l.length lc' lv') (q4 : RepLs E G t'.l lc') (q5 : Own h3 91 6 (h0.next + 3) t'.f.length fc' fv') (q6 : RepFs E G t'.f fc')
 (hbl : ∀ b, b ∈ slB lv' ++ slB fv' → b ∈ slB lv ++ slB fv ∨ h.next ≤ b) (hnd2 : (slB lv' ++ slB fv').Nodup) {tm' : Tr Value} (f6' : fget tm' 6 = .slice (some ⟨sb, 0, none⟩) (s.length + 1) cap)
 (f0' : fget tm' 0 = .pointer (some ⟨rb, 0, none⟩)) (f4' : fget tm' 4 = .pointer (some ⟨h0.next, 0, none⟩)) (f7' : fget tm' 7 = .pointer (some ⟨h0.next + 1, 0, none⟩)) (f8' : fget tm' 8 = .pointer (some ⟨h0.next + 2, 0, none⟩)) :
 RdM E L O h0 rb left (t' :: s) G tm' h3 := by
 obtain ⟨d1, d2, d3, d4, d5, d6, d7⟩ := nd3 hnd
 obtain ⟨oa, ob, oc, hob⟩ := M.ob
 have hrb := M.rbl
 have hlt : ∀ b c, G b = some c → b < h.next := fun b c hb => by obtain ⟨e, fx, hh⟩ := M.frz b c hb; exact (M.wf.live _ _ hh).2
 have hbs := hfs.live M.wf
 have hlow : ∀ b o, b < h0.next + 3 → h.get b = some o → h3.get b = some o := by
  intro b o hb hgb
  refine hkp b o hgb (fun hh => ?_) (fun hh => ?_) (by omega)
  ·have := hlo b (by simp [hh]); omega
  ·have := hlo b (by simp [hh]); omega
 refine ⟨M.rbl, w3, M.frz.but fun b o hb hgb => ?_, M.dom, fun b o hb hgb => hlow b o (by omega) (M.lo b o hb hgb), by have := M.next; omega, hlow _ _ (by omega) M.rd, hlow _ _ (by omega) M.res, ⟨oa, ob, oc, hlow _ _ (by omega) hob⟩, ?_, f0', f4', f7', f8'⟩
 ·have hne : ∀ b', b' ∈ [sb] ++ ((slB lv ++ slB fv) ++ bs) → b ≠ b' := fun b' hb' e => by
   subst e
   rw [hGn _ hb'] at hb; cases hb
  exact hkp b o hgb (fun hh => hne b (by simp [hh]) rfl) (fun hh => hne b (by simp [hh]) rfl) (hne sb (by simp))
 ·have hbl2 : ∀ b, b ∈ slB lv' ++ slB fv' → b ≠ sb ∧ b ∉ bs ∧ G b = none := by
   intro b hb
   rcases hbl b hb with h1 | h1
   ·refine ⟨?_, ?_, hGn b (by rw [List.mem_append]; right; rw [List.mem_append]; exact .inl h1)⟩
    ·rcases List.mem_append.1 h1 with h2 | h2
     ·exact (d2 b h2).2.1
     ·exact (d3 b h2).2.1
    ·rcases List.mem_append.1 h1 with h2 | h2
     ·exact (d2 b h2).2.2
     ·exact (d3 b h2).2.2
   ·refine ⟨by omega, fun hh => by have := hbs b hh; omega, ?_⟩
    cases hc : G b with
    | none => rfl
    | some c => have := hlt b c hc; omega
  refine ⟨_, _, _, f6', .inr ⟨sb, cap, rest, fx, rfl, by rw [hg3, List.append_assoc], by simp; omega, by simpa using hrest, by simpa using m1, hsb, m2⟩, ⟨c0, [.int .i64 t'.tag, rv, .string t'.name, .int .i64 t'.tag, .int .i64 0, .string .empty, lv', fv'], bs, slB lv' ++ slB fv', rfl, rfl, ?_, rv, lv', fv', lc', fc', rfl, q1, q3, q4, q5, q6, rfl⟩, ?_, ?_⟩
  ·refine hfs.but (Sub.refl _) fun b o hb hgb => hkp b o hgb (fun hh => (d2 b hh).2.2 hb) (fun hh => (d3 b hh).2.2 hb) (d4 b hb)
  ·show ([sb] ++ ((slB lv' ++ slB fv') ++ bs)).Nodup
   rw [List.singleton_append, List.nodup_cons]
   refine ⟨fun hh => ?_, List.nodup_append.2 ⟨hnd2, d7, fun a ha b hb e => (hbl2 a ha).2.1 (e ▸ hb)⟩⟩
   rcases List.mem_append.1 hh with h1 | h1
   ·exact (hbl2 _ h1).1 rfl
   ·exact d4 _ h1 rfl
  ·intro b hb
   replace hb : b ∈ [sb] ++ ((slB lv' ++ slB fv') ++ bs) := hb
   rcases List.mem_append.1 hb with h1 | h1
   ·exact hGn b (by rw [List.mem_append]; exact .inl h1)
   ·rcases List.mem_append.1 h1 with h1 | h1
    ·exact (hbl2 b h1).2.2
    ·exact hGn b (by simp [h1])
theorem RdM.setLeft {E : Env} {L : HL} {O : Om} {h0 : Heap} {rb : Nat} {left : Int} {st : List Fm} {G : Mem} {tm : Tr Value} {h : Heap} (M : RdM E L O h0 rb left st G tm h) (l' : Int) :
 RdM E L O h0 rb l' st G tm (h.put rb (.cells [.pointer (some ⟨L.ph, 0, none⟩), .int .i64 l'] 125 true)) := by
 obtain ⟨oa, ob, oc, hob⟩ := M.ob
 have hrb := M.rbl
 have hk : ∀ b o, b ≠ rb → h.get b = some o → (h.put rb (.cells [.pointer (some ⟨L.ph, 0, none⟩), .int .i64 l'] 125 true)).get b = some o := fun b o hb hg => by rw [get_put, if_neg (by omega)]; exact hg
 obtain ⟨sv, cs, bs, f6, hown, hf, hnd, hGn⟩ := M.stk
 have h1 := hown.lt M.wf
 have h2 := hf.live M.wf
 refine ⟨M.rbl, M.wf.put M.rd, M.frz.but fun b o hb hg => ?_, M.dom, fun b o hb hg => hk b o (by omega) (M.lo b o hb hg), by rw [next_put]; exact M.next, by rw [get_put, if_pos rfl], hk _ _ (by omega) M.res, ⟨oa, ob, oc, hk _ _ (by omega) hob⟩, ⟨sv, cs, bs, f6, ?_, ?_, hnd, hGn⟩, M.f0, M.f4, M.f7, M.f8⟩
 ·obtain ⟨cb, hcb⟩ := Option.isSome_iff_exists.1 hb
  have := M.dom b cb hcb
  exact hk b o (by omega) hg
 ·exact hown.but fun b o hb hg => hk b o (by have := h1 b hb; omega) hg
 ·exact hf.but (Sub.refl _) fun b o hb hg => hk b o (by have := h2 b hb; omega) hg
theorem RdM.retm {E : Env} {L : HL} {O : Om} {h0 : Heap} {rb : Nat} {left : Int} {st : List Fm} {G : Mem} {tm tm' : Tr Value} {h : Heap} (M : RdM E L O h0 rb left st G tm h) (f6 : fget tm' 6 = fget tm 6) (f0 : fget tm' 0 = fget tm 0) (f4 : fget tm' 4 = fget tm 4) (f7 : fget tm' 7 = fget tm 7) (f8 : fget tm' 8 = fget tm 8) : RdM E L O h0 rb left st G tm' h := by
 obtain ⟨sv, cs, bs, g6, g⟩ := M.stk
 exact ⟨M.rbl, M.wf, M.frz, M.dom, M.lo, M.next, M.rd, M.res, M.ob, ⟨sv, cs, bs, by rw [f6]; exact g6, g⟩, by rw [f0]; exact M.f0, by rw [f4]; exact M.f4, by rw [f7]; exact M.f7, by rw [f8]; exact M.f8⟩
theorem RdM.step {E : Env} {L : HL} {O : Om} {h0 : Heap} {rb : Nat} {left : Int} {st : List Fm} {G G' : Mem} {tm : Tr Value} {h h' : Heap} (M : RdM E L O h0 rb left st G tm h) (hk : ∀ b o, b ≠ h0.next + 1 → b ≠ h0.next + 2 → h.get b = some o → h'.get b = some o) (hob : ∃ a b c, h'.get (h0.next + 2) = some (.cells [a, b, c] 127 true))
 (w : WF E h') (hn : h.next ≤ h'.next) (hs : Sub G G') (hf : Frz E G' h') (hnew : ∀ b c, G' b = some c → G b = some c ∨ h.next ≤ b) : RdM E L O h0 rb left st G' tm h' := by
 have hrb := M.rbl
 have hnx := M.next
 obtain ⟨sv, cs, bs, f6, hown, hff, hnd, hGn⟩ := M.stk
 have h1 := hown.lt M.wf
 have h2 := hff.live M.wf
 refine ⟨M.rbl, w, hf, fun b c hb => ?_, fun b o hb hg => hk b o (by omega) (by omega) (M.lo b o hb hg), by omega, hk _ _ (by omega) (by omega) M.rd, hk _ _ (by omega) (by omega) M.res, hob, ⟨sv, cs, bs, f6, ?_, ?_, hnd, fun b hb => ?_⟩, M.f0, M.f4, M.f7, M.f8⟩
 ·rcases hnew b c hb with h3 | h3
  ·exact M.dom b c h3
  ·omega
 ·exact hown.but fun b o hb hg => hk b o (by have := h1 b hb; omega) (by have := h1 b hb; omega) hg
 ·exact hff.but hs fun b o hb hg => hk b o (by have := h2 b hb; omega) (by have := h2 b hb; omega) hg
 ·cases hc : G' b with
  | none => rfl
  | some c =>
    rcases hnew b c hc with h3 | h3
    ·rw [hGn b hb] at h3; cases h3
    ·rcases List.mem_append.1 hb with h4 | h4
     ·have := h1 b h4; omega
     ·have := h2 b h4; omega
def Kr (E : Env) (O : Om) (h0 : Heap) (rb x : Nat) : Value → Heap → Prop := fun v h' => ∃ V e c G, v = .tuple #[.agg c.toArray, .int .i64 e] ∧ Rd O 2048 [] (.obj x) (V, e) ∧ Rep E G V c ∧ Frz E G h' ∧ (∀ b c, G b = some c → h0.next + 3 ≤ b) ∧
 (∀ b o, b < rb → h0.get b = some o → h'.get b = some o) ∧ h0.next ≤ h'.next ∧ WF E h'
theorem RdM.endo {E : Env} {L : HL} {O : Om} {h0 : Heap} {rb : Nat} {left : Int} {st : List Fm} {G : Mem} {tm : Tr Value} {h : Heap} (M : RdM E L O h0 rb left st G tm h) {V : Vl} {e : Int} {x : Nat} (hr : Rd O 2048 [] (.obj x) (V, e)) {c : List Value} (hV : Rep E G V c) {o : AObj} :
 Kr E O h0 rb x (.tuple #[.agg c.toArray, .int .i64 e]) (h.put h0.next o) := by
 have hrb := M.rbl
 refine ⟨V, e, c, G, rfl, hr, hV, M.frz.but fun b o hb hg => ?_, M.dom, fun b o hb hg => ?_, by have := M.next; rw [next_put]; omega, M.wf.put M.res⟩
 ·obtain ⟨cb, hcb⟩ := Option.isSome_iff_exists.1 hb
  have := M.dom b cb hcb
  rw [get_put, if_neg (by omega)]; exact hg
 ·rw [get_put, if_neg (by omega)]; exact M.lo b o hb hg
theorem rep_zero {E : Env} {G : Mem} : Rep E G zeroV [.int .i64 0, .int .i64 0, .string .empty, .slice none 0 0, .slice none 0 0] := by
 unfold zeroV
 unfold Rep
 refine ⟨_, _, [], [], rfl, ⟨none, 0, rfl, by simp, by omega, ⟨fun _ => rfl, fun _ x => (by cases x)⟩, .inl ⟨rfl, rfl⟩⟩, ⟨none, 0, rfl, by simp, by omega, ⟨fun _ => rfl, fun _ x => (by cases x)⟩, .inl ⟨rfl, rfl⟩⟩, by unfold RepLs; rfl, by unfold RepFs; rfl, by simp, by omega, by omega⟩
def scopeIn : Code → Code
 | .scope b => b
 | .seq a b => match scopeIn a with
   | .skip => scopeIn b
   | c => c
 | _ => .skip
noncomputable def readB : Code := scopeIn (Tryz.f104.body.getD .skip)
def JJ (E : Env) (L : HL) (O : Om) (h0 : Heap) (rb x : Nat) (p : Pt) (n : Nat) (tm : Tr Value) (h : Heap) : Prop :=
 ∃ (left : Nat) (st : List Fm) (G : Mem), left ≤ 2048 ∧ OkSt st p ∧ left * 100 + 3 * st.length + (match p with | .obj _ => 0 | .next => 1 | .done _ => 2) ≤ n ∧ (∀ r, Rd O left st p r → Rd O 2048 [] (.obj x) r) ∧ RdM E L O h0 rb left st G tm h ∧
  ∃ vc, h.get (h0.next + 1) = some (.cells vc 25 true) ∧ vc.length = 5 ∧ (match p with | .obj y => fget tm 1 = .int .u64 y | .next => True | .done v => Rep E G v vc)
def Jr (E : Env) (L : HL) (O : Om) (h0 : Heap) (rb x : Nat) : Nat → Nat → Go.Tm.Cont
 | 0 => fun n tm h => ∃ y, JJ E L O h0 rb x (.obj y) n tm h
 | 1 => fun n tm h => JJ E L O h0 rb x .next n tm h
 | 2 => fun n tm h => ∃ v, JJ E L O h0 rb x (.done v) n tm h
 | _ => fun _ _ _ => False
def LabOk (E : Env) (L : HL) (O : Om) (h0 : Heap) (rb x : Nat) (l : Nat) (c : Code) : Prop := ∀ n tm h, Jr E L O h0 rb x l n tm h → wpc E c (kgoto (Jr E L O h0 rb x) n (kleave E [.cell 4 25, .tmp 5] (Kr E O h0 rb x))) tm h
end Go.Proofs.YthfopcdammlmfaaGreatDoor.G
namespace Go.Proofs.YthfopcdammlmfaaGreatDoor.G
open Go.Tm
variable {E : Env} (hE : EOk E)
include hE
theorem lab1 {h0 : Heap} {L : HL} {W nS : Nat} {R : List Nat} {O : Om} (H : IsO E h0 L W nS R O) (hW : WF E h0) {rb : Nat} (hrb : ∀ b, b ∈ L.blocks → b < rb) (nbr : (rb < E.base) = False) {x : Nat} : ∃ c, findLabel readB 1 = some c ∧ LabOk E L O h0 rb x 1 c := by
 refine ⟨_, rfl, ?_⟩
 intro n tm h HJ
 obtain ⟨left, st, G, hl, hok, hn, hrd, M, vc, hv, hvl, _⟩ := HJ
 have hrb2 := M.rbl
 simp only at hn
 obtain ⟨⟨t, s, rfl, htk, hsk⟩, hlen⟩ := hok
 obtain ⟨sb, cap, rest, fx, c0, rv, lv, fv, lc, fc, bs, f6, m1, m2, hg, hc0, hrest, q1, q3, q4, q5, q6, hfs, hnd, hGn, hsb, nbs⟩ := M.top
 obtain ⟨k, hk⟩ : ∃ k, k = s.length := ⟨_, rfl⟩
 obtain ⟨k1, hk1⟩ : ∃ k1, k1 = k + 1 := ⟨_, rfl⟩
 rw [← hk, ← hk1] at f6 m1
 rw [← hk] at hc0
 have e1 : (k1 : Int) - 1 = k := by omega
 have e2 : IntKind.i64.wrap (k : Int) = k := wrN (by simp at hlen; omega)
 have hq1 := q1
 obtain ⟨ra, rc, rfl, hrc1, hrc2⟩ := q1.slice
 have rd : ∀ j m, j + m ≤ 8 → acells E h ⟨sb, k * 8 + j, none⟩ m = some (([.int .i64 t.tag, .slice ra t.refs.length rc, .string t.name, .int .i64 t.tag, .int .i64 0, .string .empty, lv, fv].drop j).take m) := fun j m hjm => stk_read nbs hg hc0 rfl hjm
 have r0 := rd 0 1 (by omega)
 have r1 := rd 1 1 (by omega)
 have r2 := rd 2 1 (by omega)
 have r3 := rd 3 5 (by omega)
 simp only [push_cast, seval, hE.P, wpc_block, f6, e1, e2]
 rw [ia187 rfl (by omega) (by omega), kpure_some]
 simp only [push_cast, seval, hE.P, wpc_block, f6, e1, e2, ↓r0, ↓r1, ↓r2, ↓r3]
 refine kif_split (fun hb => ?_) (fun hb => ?_)
 ·have hr0 : t.refs = [] := List.length_eq_zero_iff.1 (by simpa using hb)
  obtain ⟨la, lk, rfl, _⟩ := Own.slice q3
  obtain ⟨fa, fk, rfl, _⟩ := Own.slice q5
  have hasl := asl_top (b := sb) Tryz.underlying187 sz190 (k := k) (n := k1) (cap := cap) (by omega) (by omega) (by omega)
  have nb1 : (h0.next + 1 < E.base) = False := by have := hW.base; simp; omega
  have f7 := M.f7
  simp only [push_cast, seval, hE.P, wpc_block, f6, e1, e2, ↓r3, hv, hvl, nb1, f7, hasl, awrite]
  have hv5 : vc.drop 5 = [] := List.drop_eq_nil_of_le (by omega)
  rw [hv5]
  obtain ⟨d1, d2, d3, d4, d5, d6, d7⟩ := nd3 hnd
  obtain ⟨G1, sl1, sub1, fz1, new1⟩ := q3.add M.wf M.frz (fun b hb => hGn b (by simp [hb]))
  have hG1n : ∀ b, G b = none → b ∉ slB (.slice la t.l.length lk) → G1 b = none := fun b h1 h2 => by
   cases hc : G1 b with
   | none => rfl
   | some c => rcases new1 b c hc with h3 | h3
               ·rw [h1] at h3; cases h3
               ·exact absurd h3.1 h2
  obtain ⟨G2, sl2, sub2, fz2, new2⟩ := q5.add M.wf fz1 (fun b hb => hG1n b (hGn b (by simp [hb])) (fun h => (d3 b hb).1 h))
  have hG2n : ∀ b, G b = none → b ∉ slB (.slice la t.l.length lk) → b ∉ slB (.slice fa t.f.length fk) → G2 b = none := fun b h1 h2 h3 => by
   cases hc : G2 b with
   | none => rfl
   | some c => rcases new2 b c hc with h4 | h4
               ·rw [hG1n b h1 h2] at h4; cases h4
               ·exact absurd h4.1 h3
  have hdom2 : ∀ b c, G2 b = some c → h0.next + 3 ≤ b := fun b c hc => by
   rcases new2 b c hc with h4 | h4
   ·rcases new1 b c h4 with h5 | h5
    ·exact M.dom b c h5
    ·exact h5.2
   ·exact h4.2
  have hput : ∀ b o, b ≠ h0.next + 1 → h.get b = some o → (h.put (h0.next + 1) (AObj.cells [.int .i64 t.tag, .int .i64 0, .string .empty, .slice la t.l.length lk, .slice fa t.f.length fk] 25 true)).get b = some o := fun b o hb hg => by
   rw [get_put, if_neg (by omega)]; exact hg
  have hlv := hfs.live M.wf
  refine ⟨n - 1, by simp only [List.length_cons] at hn; omega, t.val, ?_⟩
  refine ⟨left, s, G2, hl, ⟨hsk, by simp at hlen; omega⟩, by simp only [List.length_cons] at hn ⊢; omega, fun r hh => hrd r (.go (left' := left) (st' := s) (p' := .done t.val) (by simp only [rstep]; rw [hr0]) hh), ?_, [.int .i64 t.tag, .int .i64 0, .string .empty, .slice la t.l.length lk, .slice fa t.f.length fk], by rw [get_put, if_pos rfl], rfl, ?_⟩
  ·obtain ⟨oa, ob, oc, hob⟩ := M.ob
   refine ⟨M.rbl, M.wf.put hv, fz2.but fun b o hb hg => ?_, hdom2, ?_, by rw [next_put]; exact M.next, ?_, ?_, ?_, ?_, by simp only [push_cast, seval, hE.P, wpc_block, M.f0], by simp only [push_cast, seval, hE.P, wpc_block, M.f4], by simp only [push_cast, seval, hE.P, wpc_block, M.f7], by simp only [push_cast, seval, hE.P, wpc_block, M.f8]⟩
   ·obtain ⟨cb, hcb⟩ := Option.isSome_iff_exists.1 hb
    have := hdom2 b cb hcb
    exact hput b o (by omega) hg
   ·intro b o hb hg
    exact hput b o (by omega) (M.lo b o hb hg)
   ·exact hput _ _ (by omega) M.rd
   ·exact hput _ _ (by omega) M.res
   ·exact ⟨oa, ob, oc, hput _ _ (by omega) hob⟩
   ·refine ⟨.slice (some ⟨sb, 0, none⟩) k cap, c0, bs, by simp only [push_cast, seval, hE.P, wpc_block], .inr ⟨sb, cap, [.int .i64 t.tag, .slice ra t.refs.length rc, .string t.name, .int .i64 t.tag, .int .i64 0, .string .empty, .slice la t.l.length lk, .slice fa t.f.length fk] ++ rest, fx, by rw [hk], hput _ _ (by omega) hg, by omega, by simp; omega, by omega, hsb, m2⟩, ?_, d1, ?_⟩
    ·exact hfs.but (sub1.trans sub2) fun b o hb hg => hput b o (by have := hlv b hb; omega) hg
    ·intro b hb
     have hb' : b = sb ∨ b ∈ bs := by simpa [slB] using hb
     rcases hb' with rfl | hm
     ·exact hG2n _ (hGn _ (by simp)) (fun h => (d2 _ h).2.1 rfl) (fun h => (d3 _ h).2.1 rfl)
     ·exact hG2n b (hGn b (by simp [hm])) (fun h => (d2 b h).2.2 hm) (fun h => (d3 b h).2.2 hm)
  ·simp only [Fm.val]
   unfold Rep
   exact ⟨_, _, lc, fc, rfl, sl1.sub sub2, sl2, RepLs.sub (sub1.trans sub2) q4, RepFs.sub (sub1.trans sub2) q6, by simp; have := htk.2.2.2.2; simp only [Fm.n] at this; omega, by have := htk.1; omega, by omega⟩
 ·have hrne : t.refs.length ≠ 0 := by simpa using hb
  rw [Nat.add_zero] at r0
  obtain ⟨y0, r1', hrefs⟩ : ∃ y r, t.refs = y :: r := by
   cases hc : t.refs with
   | nil => rw [hc] at hrne; simp at hrne
   | cons y r => exact ⟨y, r, rfl⟩
  have hp0 : 0 < t.refs.length := by omega
  obtain ⟨a0, n0', he0, hsp0, hac0⟩ := hq1.elem M.frz hp0
  injection he0 with he1 he2 he3
  subst he1; subst he3
  rw [u64s_at hp0, Nat.zero_mul, Nat.add_zero] at hac0
  have hy0 : t.refs[0] = y0 := by simp [hrefs]
  rw [hy0] at hac0
  simp only [push_cast, seval, hE.P, wpc_block, ↓r0]
  refine kif_cutS (fun tm' h' => ∃ t' y r2 sb cap, RdM E L O h0 rb left (t' :: s) G tm' h' ∧ t'.refs = y :: r2 ∧ rstep O left (t :: s) .next = .inr (left, { t' with refs := r2 } :: s, .obj y) ∧ fget tm' 6 = .slice (some ⟨sb, 0, none⟩) k1 cap ∧ fget tm' 9 = .pointer (some ⟨sb, k * 8, none⟩) ∧
   h'.get (h0.next + 1) = some (.cells vc 25 true)) ?_ ?_
  rotate_left
  ·refine kif_split (fun hb2 => ?_) (fun hb2 => ?_)
   ·have ht6 : t.tag = 6 := by have := eq_of_beq hb2; omega
    have f0 := M.f0
    simp only [push_cast, seval, hE.P, wpc_block, f0, ↓r1]
    have hy64 : y0 < 18446744073709551616 := htk.2.2.1 y0 (by rw [hrefs]; simp)
    rw [ia50 hsp0 (by omega) (by omega), kpure_some]
    simp only [push_cast, seval, hE.P, wpc_block, f0, ↓r1, ↓hac0]
    refine (name_at hE (M.kept H hrb) M.wf M.rd hy64).mono ?_
    rintro v h1 ⟨rfl, kk1, w1⟩
    obtain ⟨nm, hnm⟩ : ∃ nm, nm = (nameO (obj O y0)).1 := ⟨_, rfl⟩
    obtain ⟨er, her⟩ : ∃ er, er = (nameO (obj O y0)).2 := ⟨_, rfl⟩
    rw [← hnm, ← her]
    have hg1 := kk1.get _ _ hg
    have wr2 := stk_write (vs := [.string nm]) (j := 2) hg1 hc0 rfl (by simp) rfl
    simp only [push_cast, seval, hE.P, wpc_block, f0, wr2]
    have MS := fun {tm'} f6' f0' f4' f7' f8' => M.setTop kk1 w1 (by omega) m2 hg (by omega) (by omega) q3 q4 q5 q6 hfs hnd hGn hsb (nm' := nm) hq1 (tm' := tm') f6' f0' f4' f7' f8'
    have gS : (h1.put sb (.cells (c0 ++ ([.int .i64 t.tag, .slice (some a0) t.refs.length rc, .string nm, .int .i64 t.tag, .int .i64 0, .string .empty, lv, fv] ++ rest)) 190 fx)).get sb = some (.cells (c0 ++ ([.int .i64 t.tag, .slice (some a0) t.refs.length rc, .string nm, .int .i64 t.tag, .int .i64 0, .string .empty, lv, fv] ++ rest)) 190 fx) := by rw [get_put, if_pos rfl]
    obtain ⟨hS, hhS⟩ : ∃ hS, hS = h1.put sb (.cells (c0 ++ ([.int .i64 t.tag, .slice (some a0) t.refs.length rc, .string nm, .int .i64 t.tag, .int .i64 0, .string .empty, lv, fv] ++ rest)) 190 fx) := ⟨_, rfl⟩
    have hv1 : hS.get (h0.next + 1) = some (.cells vc 25 true) := by rw [hhS, get_put, if_neg (by omega)]; exact kk1.get _ _ hv
    rw [← hhS] at MS gS
    simp only [List.cons_append, List.nil_append] at hhS
    rw [← hhS]
    refine kif_split (fun hb3 => ?_) (fun hb3 => ?_)
    ·have hne : er ≠ 0 := by simpa using hb3
     have f4 := M.f4
     have M2 := MS (tm' := tm) (by rw [← hk, ← hk1]; exact f6) M.f0 M.f4 M.f7 M.f8
     have gr := M2.res
     have nb0 : (h0.next < E.base) = False := by have := hW.base; simp; omega
     simp only [push_cast, seval, hE.P, wpc_block, f4, gr, nb0, awrite]
     exact M2.endo (hrd _ (.fin (by simp only [rstep, hrefs]; rw [if_pos ht6, if_pos (by rw [← her]; exact hne), her]))) rep_zero
    ·have her0 : er = 0 := by simpa using hb3
     have f6' : fget tm 6 = .slice (some ⟨sb, 0, none⟩) (s.length + 1) cap := by rw [← hk, ← hk1]; exact f6
     obtain ⟨y1, hsl1, hsl2⟩ := sl_tail hE (n := y0) (ws := r1') (m := t.refs.length) (by rw [hrefs]; simp) hsp0 (by rw [← hrefs]; exact hq1)
     have r1S := stk_read (j := 1) (m := 1) nbs gS hc0 rfl (by omega)
     have wr1 := stk_write (vs := [y1]) (j := 1) gS hc0 rfl (by simp) (by obtain ⟨_, _, e, _⟩ := hsl2; rw [e]; rfl)
     obtain ⟨ya, yc, rfl, _, _⟩ := hsl2.slice
     simp only [push_cast, seval, hE.P, wpc_block, f6, ↓r1S, hsl1, wr1]
     obtain ⟨y2, r2, hr2⟩ : ∃ y r, r1' = y :: r := by
      cases hc : r1' with
      | nil => have := htk.2.1 ht6; rw [hrefs, hc] at this; simp at this
      | cons y r => exact ⟨y, r, rfl⟩
     have hput : hS.put sb (.cells (c0 ++ .int .i64 t.tag :: .slice ya r1'.length yc :: .string nm :: .int .i64 t.tag :: .int .i64 0 :: .string .empty :: lv :: fv :: rest) 190 fx) = h1.put sb (.cells (c0 ++ ([.int .i64 t.tag, .slice ya r1'.length yc, .string nm, .int .i64 t.tag, .int .i64 0, .string .empty, lv, fv] ++ rest)) 190 fx) := by
      rw [hhS, put_put]; rfl
     rw [hput]
     refine ⟨{ t with refs := r1', name := nm }, y2, r2, sb, cap, M.setTop kk1 w1 (by omega) m2 hg (by omega) (by omega) q3 q4 q5 q6 hfs hnd hGn hsb hsl2 (by rw [← hk, ← hk1]; simp only [push_cast, seval, hE.P, wpc_block, f6]) (by simp only [push_cast, seval, hE.P, wpc_block, M.f0]) (by simp only [push_cast, seval, hE.P, wpc_block, M.f4]) (by simp only [push_cast, seval, hE.P, wpc_block, M.f7]) (by simp only [push_cast, seval, hE.P, wpc_block, M.f8]), hr2, ?_, rfl, rfl, ?_⟩
     ·simp only [rstep, hrefs]
      rw [if_pos ht6, if_neg (by rw [← her]; simpa using her0), hr2, ← hnm]
     ·rw [if_neg (by omega)]; exact hv1
   ·have ht6 : t.tag ≠ 6 := by intro e; rw [e] at hb2; simp at hb2
    simp only [push_cast, seval, hE.P, wpc_block, f6]
    refine ⟨t, y0, r1', sb, cap, ?_, hrefs, ?_, rfl, rfl, hv⟩
    ·refine ⟨M.rbl, M.wf, M.frz, M.dom, M.lo, M.next, M.rd, M.res, M.ob, ?_, by simp only [push_cast, seval, hE.P, wpc_block, M.f0], by simp only [push_cast, seval, hE.P, wpc_block, M.f4], by simp only [push_cast, seval, hE.P, wpc_block, M.f7], by simp only [push_cast, seval, hE.P, wpc_block, M.f8]⟩
     obtain ⟨sv, cs, bs', g6, g⟩ := M.stk
     exact ⟨sv, cs, bs', by simp only [push_cast, seval, hE.P, wpc_block, g6], g⟩
    ·simp only [rstep, hrefs]
     rw [if_neg ht6]
  ·clear f6 hg r0 r1 r2 r3 hac0 M hv
   rintro tm h ⟨t', y, r2, sb, cap, M, hrf, hst, f6, f9, hv⟩
   obtain ⟨sb', cap', rest', fx', c0', rv', lv', fv', lc', fc', bs', f6', m1', m2', hg', hc0', hrest', q1', q3', q4', q5', q6', hfs', hnd', hGn', hsb', nbs'⟩ := M.top
   rw [f6] at f6'
   injection f6' with f61 f62 f63
   injection f61 with f61
   injection f61 with f61
   subst f61; subst f63
   rw [← hk] at hc0'
   have hp0' : 0 < t'.refs.length := by rw [hrf]; simp
   obtain ⟨a1, n1, he1, hsp1, hac1⟩ := q1'.elem M.frz hp0'
   subst he1
   rw [u64s_at hp0', Nat.zero_mul, Nat.add_zero] at hac1
   have hy1 : t'.refs[0] = y := by simp [hrf]
   rw [hy1] at hac1
   obtain ⟨y3, hsl3, hsl4⟩ := sl_tail hE (n := y) (ws := r2) (m := t'.refs.length) (by rw [hrf]; simp) hsp1 (by rw [← hrf]; exact q1')
   have r1T := stk_read (j := 1) (m := 1) nbs' hg' hc0' rfl (by omega)
   have wr3 := stk_write (vs := [y3]) (j := 1) hg' hc0' rfl (by simp) (by obtain ⟨_, _, e, _⟩ := hsl4; rw [e]; rfl)
   have hl4 := hsl4
   obtain ⟨yb, yd, rfl, _, _⟩ := hsl4.slice
   simp only [push_cast, seval, hE.P, wpc_block, f9, ↓r1T]
   rw [ia50 hsp1 (by omega) (by omega), kpure_some]
   simp only [push_cast, seval, hE.P, wpc_block, f9, ↓r1T, ↓hac1, hsl3, wr3]
   have hput : h.put sb (.cells (c0' ++ .int .i64 t'.tag :: .slice yb r2.length yd :: .string t'.name :: .int .i64 t'.tag :: .int .i64 0 :: .string .empty :: lv' :: fv' :: rest') 190 fx') = h.put sb (.cells (c0' ++ ([.int .i64 t'.tag, .slice yb r2.length yd, .string t'.name, .int .i64 t'.tag, .int .i64 0, .string .empty, lv', fv'] ++ rest')) 190 fx') := rfl
   rw [hput]
   have hok2 : OkSt ({ t' with refs := r2 } :: s) (.obj y) := OkSt.step H.okO hst ⟨⟨t, s, rfl, htk, hsk⟩, hlen⟩
   refine ⟨n - 1, by simp only [List.length_cons] at hn; omega, y, ?_⟩
   refine ⟨left, _, G, hl, hok2, by simp only [List.length_cons] at hn ⊢; omega, fun r hh => hrd r (.go hst hh), M.setTop (Keep.refl h) M.wf (by omega) m2' hg' (by omega) (by omega) q3' q4' q5' q6' hfs' hnd' hGn' hsb' hl4 (by rw [← hk, ← hk1]; simp only [push_cast, seval, hE.P, wpc_block, f6]) (by simp only [push_cast, seval, hE.P, wpc_block, M.f0]) (by simp only [push_cast, seval, hE.P, wpc_block, M.f4]) (by simp only [push_cast, seval, hE.P, wpc_block, M.f7]) (by simp only [push_cast, seval, hE.P, wpc_block, M.f8]), vc, ?_, hvl, by simp only [push_cast, seval, hE.P, wpc_block]⟩
   rw [get_put, if_neg (by omega)]; exact hv
end Go.Proofs.YthfopcdammlmfaaGreatDoor.G
