/- The marker's walks: a unit; steps. -/
/- Merged by a program of ours: K2 K3. -/
import Derived.Test.YthfopcdammlmfaaGreatDoorU1
set_option maxRecDepth 10000
set_option linter.all false
set_option linter.unusedSimpArgs false
set_option linter.unusedVariables false
/- The marker's walks: a handle linked; a unit; steps; stopped. -/
namespace Go.Proofs.YthfopcdammlmfaaGreatDoor
open Go.Tm
structure MkM (E : Env) (h : Heap) (L : HL) (mb lo0 : Nat) (sv : Value) (stk : List Nat) (run : Bool) : Prop where
 nb : mb ∉ L.blocks
 get : h.get mb = some (.cells [.pointer (some ⟨L.ph, 0, none⟩), sv, .bool run] 166 true)
 own : Own h 33 1 lo0 stk.length (u64s stk) sv
 sep : ∀ b, b ∈ slB sv → b ∉ L.blocks ∧ b ≠ mb
def XM (L : HL) (mb : Nat) (sv : Value) (b : Nat) : Prop := b ∈ L.blocks ∨ b = mb ∨ b ∈ slB sv
theorem MkM.mk1 {E : Env} {h : Heap} {L : HL} {mb lo0 : Nat} {sv : Value} {stk : List Nat} {run : Bool} (m : MkM E h L mb lo0 sv stk run) : Mk1 h L mb := ⟨m.nb, _, m.get⟩
theorem MkM.b {E : Env} {h h' : Heap} {L : HL} {mb lo0 : Nat} {sv : Value} {stk : List Nat} {run : Bool} (m : MkM E h L mb lo0 sv stk run) (k : KeepB L h h') : MkM E h' L mb lo0 sv stk run :=
 ⟨m.nb, k.get _ _ m.nb m.get, m.own.but fun b o hb hg => k.get b o (m.sep b hb).1 hg, m.sep⟩
theorem MkM.keep {E : Env} {h h' : Heap} {L : HL} {mb lo0 : Nat} {sv : Value} {stk : List Nat} {run : Bool} (m : MkM E h L mb lo0 sv stk run) (k : Keep h h') : MkM E h' L mb lo0 sv stk run := m.b (k.b L)
theorem IsH.x {E : Env} {h h' : Heap} {L : HL} {S : HS} (H : IsH E h L S) {X : Nat → Prop} (k : KX X h h') (hX : ∀ b, b ∈ L.blocks → ¬ X b) : IsH E h' L S :=
 ⟨H.ok, H.nd, H.base, k.get _ _ (hX _ (by simp [HL.blocks])) H.heap, k.get _ _ (hX _ (by simp [HL.blocks])) H.arena, k.get _ _ (hX _ (by simp [HL.blocks])) H.table, k.get _ _ (hX _ (by simp [HL.blocks])) H.words, k.get _ _ (hX _ (by simp [HL.blocks])) H.begins, k.get _ _ (hX _ (by simp [HL.blocks])) H.slots⟩
theorem put_kx {X : Nat → Prop} {h : Heap} {b : Nat} {o : AObj} (hb : X b) : KX X h (h.put b o) := ⟨fun j p hj hg => by
 rw [get_put, if_neg (fun e : b = j => hj (by rw [← e]; exact hb))]; exact hg, by simp⟩
theorem KeepB.x {L : HL} {h h' : Heap} (k : KeepB L h h') {X : Nat → Prop} (hX : ∀ b, b ∈ L.blocks → X b) : KX X h h' := ⟨fun b o hb hg => k.get b o (fun hm => hb (hX b hm)) hg, k.next⟩
theorem Own.isS {h : Heap} {e z lo n : Nat} {cs : List Value} {v : Value} (H : Own h e z lo n cs v) : ∃ a c, v = .slice a n c := by
 rcases H with ⟨rfl, rfl, _⟩ | ⟨b, cap, _, _, rfl, _⟩
 ·exact ⟨_, _, rfl⟩
 ·exact ⟨_, _, rfl⟩
theorem gslotOf {S : HS} {A : List Cl} (w : Gw S A) (ok : S.Ok) (x : Nat) : (live A x = false → slotOf S x = none) ∧ ∀ c, c ∈ A → c.hd = x → slotOf S x = some c.s ∧ (S.sl c.s).at_ = c.p :=
 ⟨fun h => gslot_none w (by unfold live at h; simpa using h), fun c hc e => by rw [← e]; exact ⟨w.slotOf ok hc, (w.sits c hc).at_⟩⟩
theorem live_setM {M : Nat → Bool} {A : List Cl} {x : Nat} : live (setM M A) x = live A x := by unfold live; rw [gobj_setM]
variable {E : Env} (hE : EOk E)
include hE
section
variable {h : Heap} {L : HL} {S : HS} {A : List Cl} {M : Nat → Bool} (H : IsH E h L S) (w : Gw S (setM M A)) (hW : WF E h) {mb lo0 : Nat} {sv : Value} {stk : List Nat} {run : Bool} (m : MkM E h L mb lo0 sv stk run)
include H w hW m
theorem mmarkedN_at {x : Nat} (hx : x < 18446744073709551616) (hl : live A x = false) : CallsTo E 149 [.pointer (some ⟨mb, 0, none⟩), .int .u64 x] h fun v h' =>
 v = .tuple #[.bool false, .int .i64 6] ∧ h' = h := by
 have gm := m.get
 have nbm := hW.nlt gm
 refine en hE Tryz.func149 rfl rfl Tryz.ntmps149 rfl (by decide +kernel) (rs := [.tmp 4, .tmp 5]) rfl ?_
 simp only [push_cast, seval, hE.P, zz, gm, nbm]
 refine (table_at hE H).mono ?_
 rintro v h1 ⟨rfl, rfl⟩
 simp only [push_cast, seval, hE.P, zz, gm, nbm]
 refine (tat_at hE H hx).mono ?_
 rintro v h1 ⟨rfl, rfl⟩
 rw [(gslotOf w H.ok x).1 (by rw [live_setM]; exact hl)]
 simp only [push_cast, seval, hE.P, zz, errOf]
theorem mlink_at {x : Nat} (hx : x < 18446744073709551616) (hlen : stk.length ≤ 1000000) (hlo : lo0 ≤ h.next) : CallsTo E 116 [.pointer (some ⟨mb, 0, none⟩), .int .u64 x] h fun v h' =>
 v = .tuple #[] ∧ ∃ wf sv', IsH E h' L { S with w := wf } ∧ Gw { S with w := wf } (setM (link1 A (M, stk) x).1 A) ∧ MkM E h' L mb lo0 sv' (link1 A (M, stk) x).2 run ∧ KX (XM L mb sv) h h' ∧ (∀ b, b ∈ slB sv' → b ∈ slB sv ∨ h.next ≤ b) ∧ WF E h' := by
 have same : ∀ h', live A x = false ∨ M x = true → Keep h h' → WF E h' → ∃ wf sv', IsH E h' L { S with w := wf } ∧ Gw { S with w := wf } (setM (link1 A (M, stk) x).1 A) ∧ MkM E h' L mb lo0 sv' (link1 A (M, stk) x).2 run ∧ KX (XM L mb sv) h h' ∧ (∀ b, b ∈ slB sv' → b ∈ slB sv ∨ h.next ≤ b) ∧ WF E h' := by
  intro h' hc k w'
  have e : link1 A (M, stk) x = (M, stk) := by
   unfold link1
   rw [if_neg]
   rcases hc with hc | hc <;> simp [hc]
  rw [e]
  exact ⟨S.w, sv, H.keep k, w, m.keep k, k.x _, fun b hb => .inl hb, w'⟩
 refine en hE Tryz.func116 rfl rfl Tryz.ntmps116 rfl (by decide +kernel) (rs := []) rfl ?_
 simp only [push_cast, seval, hE.P, zz]
 cases hl : live A x with
 | false =>
   refine (mmarkedN_at hE H w hW m hx hl).mono ?_
   rintro v h1 ⟨rfl, rfl⟩
   simp only [push_cast, seval, hE.P, zz]
   exact same _ (.inl hl) (Keep.refl _) hW
 | true =>
   obtain ⟨c, hc, hcx⟩ := live_iff.1 hl
   have hc' := mem_setM (M := M) hc
   have hcd := hd_m c (M c.hd)
   have S1 := mmarked_at hE H hW m.mk1.2 w hc'
   rw [hcd, hcx] at S1
   refine S1.mono ?_
   rintro v h1 ⟨rfl, k1, w1⟩
   cases hMx : M x with
   | true =>
     simp only [push_cast, seval, hE.P, zz, hMx]
     exact same _ (.inr hMx) k1 w1
   | false =>
     simp only [push_cast, seval, hE.P, zz, hMx]
     have e : link1 A (M, stk) x = (fun y => if y = x then true else M y, stk ++ [x]) := by
      unfold link1
      rw [if_pos (by simp [hl, hMx])]
     rw [e]
     have S2 := mset_at hE (H.keep k1) w1 (m.keep k1).mk1 w hc' (on := true)
     rw [hcd, hcx] at S2
     refine S2.mono ?_
     rintro v h2 ⟨rfl, H2, k2, w2⟩
     have W2 := w.setMark H.ok hc true
     rw [hcx] at W2
     have m2 := (m.keep k1).b k2
     have gm2 := m2.get
     have nbm := w2.nlt gm2
     have hnx : h.next ≤ h2.next := Nat.le_trans k1.next k2.next
     simp only [push_cast, seval, hE.P, zz, gm2, nbm]
     rw [bs50 rfl, kalloc_some]
     simp only [push_cast, seval, hE.P, zz, gm2, nbm]
     refine kwv_app1 (el50 hE.P) w2 (lo := lo0) (by omega) m2.own rfl rfl (by omega) (by omega) ?_
     intro v' h3 hown3 hk3 hb3 hn3 w3
     obtain ⟨va, vc, rfl⟩ := Own.isS hown3
     obtain ⟨v', hv'⟩ : ∃ v', v' = Value.slice va (stk.length + 1) vc := ⟨_, rfl⟩
     rw [← hv'] at hown3 hb3
     have gm3 := hk3 _ _ gm2 (fun hb => (m2.sep _ hb).2 rfl)
     have hmn3 : mb ∉ slB v' := fun hb => by
      rcases hb3 _ hb with h5 | h5
      ·exact (m2.sep _ h5).2 rfl
      ·have := (w2.live _ _ gm2).2; omega
     simp only [push_cast, seval, hE.P, zz, gm2, gm3, nbm]
     rw [← hv']
     have hs3 : ∀ b, b ∈ slB v' → b ∉ L.blocks ∧ b ≠ mb := fun b hb => by
      rcases hb3 _ hb with h5 | h5
      ·exact m2.sep b h5
      ·exact ⟨fun hm => by have := (H2.ltB w2 b hm).2; omega, fun he => hmn3 (he ▸ hb)⟩
     have kx3 : KX (XM L mb sv) h2 h3 := ⟨fun b o hb hg => hk3 b o hg (fun hb' => hb (.inr (.inr hb'))), by omega⟩
     have kx4 : KX (XM L mb sv) h2 (h3.put mb (.cells [.pointer (some ⟨L.ph, 0, none⟩), v', .bool run] 166 true)) := kx3.trans (put_kx (.inr (.inl rfl)))
     have hl3 : ∀ b, b ∈ L.blocks → h2.get b = (h3.put mb (.cells [.pointer (some ⟨L.ph, 0, none⟩), v', .bool run] 166 true)).get b ∨ h2.get b = none := fun b hb => by
      cases hg : h2.get b with
      | none => exact .inr rfl
      | some o =>
        left
        rw [get_put, if_neg (fun e => m.nb (by rw [e]; exact hb))]
        exact (hk3 b o hg (fun hb' => (m2.sep b hb').1 hb)).symm
     have H4 : IsH E (h3.put mb (.cells [.pointer (some ⟨L.ph, 0, none⟩), v', .bool run] 166 true)) L { S with w := updN S.w c.p (packN { unpackN (S.w c.p) with mark := true }) } := by
      refine H2.x (X := fun b => b ∉ L.blocks) ⟨fun b o hb hg => ?_, by simpa using hn3⟩ (fun b hb h => h hb)
      have hb : b ∈ L.blocks := Classical.byContradiction hb
      rcases hl3 b hb with h5 | h5
      ·rw [← h5]; exact hg
      ·rw [hg] at h5; cases h5
     refine ⟨_, v', H4, W2, ⟨m.nb, by rw [get_put, if_pos rfl], ?_, hs3⟩, ((k1.x _).trans (k2.x fun b hb => .inl hb)).trans kx4, fun b hb => ?_, w3.put gm3⟩
     ·rw [List.length_append]
      have : u64s (stk ++ [x]) = u64s stk ++ [.int .u64 x] := by simp [u64s]
      rw [this]
      refine Own.but hown3 fun b o hb hg => ?_
      rw [get_put, if_neg (fun e => (hs3 b hb).2 e.symm)]; exact hg
     ·rcases hb3 b hb with h5 | h5
      ·exact .inl h5
      ·exact .inr (by omega)
end
end Go.Proofs.YthfopcdammlmfaaGreatDoor
namespace Go.Proofs.YthfopcdammlmfaaGreatDoor
open Go.Tm
theorem asl_pre {b n cap i : Nat} (hi : i ≤ cap) (h0 : 0 < cap) : asl Tryz.prog 50 (.slice (some ⟨b, 0, none⟩) n cap) none (some (.int .i64 (i : Int))) = some (.slice (some ⟨b, 0, none⟩) i cap) := by
 simp only [asl, Tryz.underlying50, abnd, sz33]
 rw [if_pos (by omega)]
 simp only [Int.toNat_natCast]
 simp [h0, addo]
theorem linkL_snoc {A : List Cl} {p : Ms} {l : List Nat} {x : Nat} : linkL A p (l ++ [x]) = link1 A (linkL A p l) x := by simp [linkL]
theorem refs_take {o : Ob} {i : Nat} (hi : i < o.refs) (hr : o.refs ≤ o.ws.length) : (refsOf o).take (i + 1) = (refsOf o).take i ++ [o.ws[i]'(by omega)] := by
 unfold refsOf
 have hl : i < (o.ws.take o.refs).length := by simp; omega
 rw [List.take_succ_eq_append_getElem hl]
 simp
variable {E : Env} (hE : EOk E)
include hE
section
variable {h : Heap} {L : HL} {S : HS} {A : List Cl} {M : Nat → Bool} (H : IsH E h L S) (w : Gw S (setM M A)) (hW : WF E h) {mb lo0 : Nat} {sv : Value} {s : List Nat} {c : Cl} {run : Bool} (m : MkM E h L mb lo0 sv (s ++ [c.hd]) run) (hc : c ∈ A) (hmu : mu A (M, s ++ [c.hd]) ≤ 1000000) (hlo : lo0 ≤ h.next)
include H w hW m hc hmu hlo
theorem munit_at : CallsTo E 117 [.pointer (some ⟨mb, 0, none⟩)] h fun v h' =>
 v = .tuple #[] ∧ ∃ wf sv', IsH E h' L { S with w := wf } ∧ Gw { S with w := wf } (setM (linkL A (M, s) (refsOf c.o)).1 A) ∧ MkM E h' L mb lo0 sv' (linkL A (M, s) (refsOf c.o)).2 run ∧ KX (XM L mb sv) h h' ∧ (∀ b, b ∈ slB sv' → b ∈ slB sv ∨ h.next ≤ b) ∧ WF E h' := by
 have gm := m.get
 have nbm := hW.nlt gm
 have hso := m.own
 rw [List.length_append, List.length_cons, List.length_nil] at hso
 have hsep := m.sep
 have hslen : s.length ≤ 1000000 := by
  unfold mu at hmu
  simp only [List.length_append, List.length_cons, List.length_nil] at hmu
  omega
 rcases hso with ⟨_, h0, _⟩ | ⟨b, cap, rest, fx, rfl, hg, hc1, hc2, hc3, hc4, hc5⟩
 ·omega
 have nbb := hW.nlt hg
 have hbm := hsep b (by simp [slB])
 have hgl : (u64s (s ++ [c.hd]) ++ rest)[s.length]? = some (.int .u64 (c.hd : Nat)) := by
  rw [List.getElem?_append_left (by rw [u64s_len]; simp)]
  simp [u64s]
 have hlb : acells E h ⟨b, s.length, none⟩ 1 = some [.int .u64 (c.hd : Nat)] := by
  simp only [acells, hg]
  rw [if_neg (by rw [nbb]; simp)]
  have hl : s.length + 1 ≤ (u64s (s ++ [c.hd]) ++ rest).length := by rw [List.length_append, u64s_len]; simp
  rw [if_pos hl, List.drop_eq_getElem_cons (by omega), List.take_succ_cons, List.take_zero]
  rw [List.getElem?_eq_getElem (by omega)] at hgl
  injection hgl with hgl
  rw [hgl]
 have e1 : ((s.length + 1 : Nat) : Int) - 1 = s.length := by omega
 have e2 : IntKind.i64.wrap (s.length : Int) = s.length := wrN (by omega)
 have hal := asl_pre (b := b) (n := s.length + 1) (cap := cap) (i := s.length) (by omega) (by omega)
 obtain ⟨n1, hn1⟩ : ∃ n1, n1 = s.length + 1 := ⟨_, rfl⟩
 rw [← hn1] at e1 hal gm
 obtain ⟨sl, hsl⟩ : ∃ sl, sl = s.length := ⟨_, rfl⟩
 rw [← hsl] at e1 e2 hal hlb hn1
 have hx := (w.hd_lt H.ok (mem_setM (M := M) hc)).1
 rw [hd_m] at hx
 have hob : gobj (setM M A) c.hd = some c.o := by
  have := gobj_of w H.ok (mem_setM (M := M) hc)
  rw [hd_m] at this; exact this
 have hst := w.sits _ (mem_setM (M := M) hc)
 have hsm := w.small (mem_setM (M := M) hc)
 have hrf : c.o.refs ≤ c.o.ws.length := hst.refs
 have hrs : c.o.refs < 8192 := hsm.2.1
 obtain ⟨x, hxe⟩ : ∃ x, x = c.hd := ⟨_, rfl⟩
 rw [← hxe] at hlb hx hob
 refine en hE Tryz.func117 rfl rfl Tryz.ntmps117 rfl (by decide +kernel) (rs := []) rfl ?_
 refine wdraw_calm (by rw [hE.P]; decide +kernel) ?_
 simp only [push_cast, seval, hE.P, zz, gm, nbm, e1, e2]
 rw [ia50 rfl (by omega) (by omega), kpure_some]
 simp only [push_cast, seval, hE.P, zz, gm, nbm, e1, e2, ↓hlb]
 refine wdraw_calm (by rw [hE.P]; decide +kernel) ?_
 simp only [push_cast, seval, hE.P, zz, gm, nbm, e1, e2, hal]
 have k1 : KX (XM L mb (.slice (some ⟨b, 0, none⟩) n1 cap)) h (h.put mb (.cells [.pointer (some ⟨L.ph, 0, none⟩), .slice (some ⟨b, 0, none⟩) sl cap, .bool run] 166 true)) := put_kx (.inr (.inl rfl))
 have w1 : WF E (h.put mb (.cells [.pointer (some ⟨L.ph, 0, none⟩), .slice (some ⟨b, 0, none⟩) sl cap, .bool run] 166 true)) := hW.put gm
 have H1 : IsH E (h.put mb (.cells [.pointer (some ⟨L.ph, 0, none⟩), .slice (some ⟨b, 0, none⟩) sl cap, .bool run] 166 true)) L S := H.x (X := fun j => j = mb) (put_kx rfl) fun j hj e => m.nb (e ▸ hj)
 have m1 : MkM E (h.put mb (.cells [.pointer (some ⟨L.ph, 0, none⟩), .slice (some ⟨b, 0, none⟩) sl cap, .bool run] 166 true)) L mb lo0 (.slice (some ⟨b, 0, none⟩) sl cap) s run := by
  refine ⟨m.nb, by rw [get_put, if_pos rfl], .inr ⟨b, cap, [.int .u64 (c.hd : Nat)] ++ rest, fx, by rw [hsl], ?_, by rw [u64s_len]; omega, ?_, by omega, hc4, hc5⟩, fun j hj => ?_⟩
  ·rw [get_put, if_neg (fun e => hbm.2 e.symm), hg]; simp [u64s]
  ·rw [List.length_append, hc2]; simp; omega
  ·simp only [slB, List.mem_singleton] at hj; subst hj; exact hbm
 have hn1' : (h.put mb (.cells [.pointer (some ⟨L.ph, 0, none⟩), .slice (some ⟨b, 0, none⟩) sl cap, .bool run] 166 true)).next = h.next := by simp
 generalize h.put mb (.cells [.pointer (some ⟨L.ph, 0, none⟩), .slice (some ⟨b, 0, none⟩) sl cap, .bool run] 166 true) = h1 at *
 refine (ghead_at hE ⟨S, H1, w⟩ w1 hx).mono ?_
 rw [hob]
 rintro v h2 ⟨rfl, k2, w2⟩
 have m2 := m1.keep k2
 have H2 := H1.keep k2
 simp only [push_cast, seval, hE.P, zz, headO]
 refine wpc_loop (fun n tm h' => ∃ i wf sv', n = c.o.refs - i ∧ i ≤ c.o.refs ∧ fget tm 48 = .int .i64 i ∧ fget tm 47 = .int .i64 c.o.refs ∧ fget tm 0 = .pointer (some ⟨mb, 0, none⟩) ∧ fget tm 2 = .int .u64 x ∧
  IsH E h' L { S with w := wf } ∧ Gw { S with w := wf } (setM (linkL A (M, s) ((refsOf c.o).take i)).1 A) ∧ MkM E h' L mb lo0 sv' (linkL A (M, s) ((refsOf c.o).take i)).2 run ∧ KX (XM L mb (.slice (some ⟨b, 0, none⟩) n1 cap)) h h' ∧ (∀ j, j ∈ slB sv' → j ∈ slB (.slice (some ⟨b, 0, none⟩) n1 cap) ∨ h.next ≤ j) ∧ WF E h') c.o.refs ?_ ?_
 ·refine ⟨0, S.w, _, by omega, by omega, by simp only [push_cast, seval, hE.P, zz], by simp only [push_cast, seval, hE.P, zz], by simp only [push_cast, seval, hE.P, zz], by simp only [push_cast, seval, hE.P, zz], H2, w, m2, k1.trans (k2.x _), fun j hj => .inl (by simpa [slB] using hj), w2⟩
 ·rintro n tm h' ⟨i, wf, sv', rfl, hi, f48, f47, f0, f2, H', W', m', k', hb', w'⟩
  simp only [push_cast, seval, hE.P, zz, f48, f47]
  refine kif_split (fun hb => ?_) (fun hb => ?_)
  ·have hlt : i < c.o.refs := by simpa using hb
   have gm' := m'.get
   have nbm' := w'.nlt gm'
   have hob' : gobj (setM (linkL A (M, s) ((refsOf c.o).take i)).1 A) x = some c.o := by rw [gobj_setM] at hob ⊢; exact hob
   simp only [push_cast, seval, hE.P, zz, f48, f47, f0, f2, gm', nbm']
   refine (gref_at hE ⟨_, H', W'⟩ w' hx (i := i) (by omega) (by omega)).mono ?_
   rw [hob', refO_in hlt (by omega)]
   rintro v h3 ⟨rfl, k3, w3⟩
   have hy : c.o.ws[i] < 18446744073709551616 := by
    rw [← hst.ws i _ (List.getElem?_eq_getElem (by show i < c.o.ws.length; omega))]; exact H.ok.w _
   simp only [push_cast, seval, hE.P, zz, f48, f47, f0, f2]
   have hml : (linkL A (M, s) ((refsOf c.o).take i)).2.length ≤ 1000000 := by
    have h5 := linkL_mu (A := A) ((refsOf c.o).take i) (M, s)
    unfold mu at h5 hmu
    simp only [List.length_append, List.length_cons, List.length_nil] at h5 hmu
    omega
   refine (mlink_at hE (H'.keep k3) W' w3 (m'.keep k3) hy hml (by have := k3.next; have := k'.next; omega)).mono ?_
   rintro v h4 ⟨rfl, wf4, sv4, H4, W4, m4, k4, hb4, w4⟩
   obtain ⟨i1, hi1⟩ : ∃ i1, i1 = i + 1 := ⟨_, rfl⟩
   have hi2 : (i : Int) + 1 = i1 := by omega
   have hi3 : IntKind.i64.wrap (i1 : Int) = i1 := wrN (by omega)
   have htk := refs_take hlt hrf
   simp only [push_cast, seval, hE.P, zz, f48, f47, f0, f2, hi2, hi3]
   have hk4 : KX (XM L mb (.slice (some ⟨b, 0, none⟩) n1 cap)) h h4 := by
    refine (k'.trans (k3.x _)).then hW k4 fun j hj => ?_
    rcases hj with h5 | h5 | h5
    ·exact .inl (.inl h5)
    ·exact .inl (.inr (.inl h5))
    ·rcases hb' j h5 with h6 | h6
     ·exact .inl (.inr (.inr h6))
     ·exact .inr h6
   rw [← linkL_snoc, ← htk, ← hi1] at W4 m4
   refine ⟨c.o.refs - i1, by omega, i1, wf4, sv4, rfl, by omega, rfl, H4, W4, m4, hk4, fun j hj => ?_, w4⟩
   rcases hb4 j hj with h5 | h5
   ·exact hb' j h5
   ·right; have := k3.next; have := k'.next; omega
  ·have hge : i = c.o.refs := by have : ¬ i < c.o.refs := by simpa using hb
                                 omega
   subst hge
   have e : (refsOf c.o).take c.o.refs = refsOf c.o := by
    unfold refsOf; rw [List.take_take]; simp
   rw [e] at W' m'
   simp only [push_cast, seval, hE.P, zz]
   exact ⟨wf, sv', H', W', m', k', hb', w'⟩
end
end Go.Proofs.YthfopcdammlmfaaGreatDoor
