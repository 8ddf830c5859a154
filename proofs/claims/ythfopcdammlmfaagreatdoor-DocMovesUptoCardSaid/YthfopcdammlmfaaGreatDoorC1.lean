/- Merged by a program of ours: H0 H1. -/
import Derived.Test.YthfopcdammlmfaaGreatDoorB3
import Derived.Test.YthfopcdammlmfaaGreatDoorA8
set_option maxRecDepth 10000
set_option linter.all false
set_option linter.unusedSimpArgs false
set_option linter.unusedVariables false
/- THE HEAP OF OBJECTS, in memory: what it is made of. -/
namespace Go.Proofs.YthfopcdammlmfaaGreatDoor
open Go.Tm
structure HS where
 W : Nat
 w : Nat → Nat
 bg : Nat → Nat
 top : Nat
 low : Nat
 high : Nat
 open_ : Bool
 nS : Nat
 sl : Nat → Slot
 fresh : Nat
 freed : Nat
 cnt : Nat
 roots : List Nat
 wt : Value
structure HL where
 ph : Nat
 pa : Nat
 pt : Nat
 bw : Nat
 bb : Nat
 bs : Nat
def HL.blocks (L : HL) : List Nat := [L.ph, L.pa, L.pt, L.bw, L.bb, L.bs]
structure HS.Ok (S : HS) : Prop where
 W : S.W ≤ 1048576
 nS : S.nS ≤ 1048576
 w : ∀ i, S.w i < 18446744073709551616
 bg : ∀ i, S.bg i < 18446744073709551616
 top : S.top ≤ S.W
 gen : ∀ i, (S.sl i).gen < 4294967296
 at_ : ∀ i, (S.sl i).at_ ≤ 1048576
 next : ∀ i, (S.sl i).next ≤ 1048576
 fresh : S.fresh ≤ S.nS
 freed : S.freed ≤ S.nS
 cnt : S.cnt ≤ S.nS
 roots : S.roots.length = 16
 low : S.low ≤ S.W
 high : S.high ≤ S.W
structure IsH (E : Env) (h : Heap) (L : HL) (S : HS) : Prop where
 ok : S.Ok
 nd : L.blocks.Nodup
 base : ∀ b, b ∈ L.blocks → E.base ≤ b
 heap : h.get L.ph = some (.cells (.pointer (some ⟨L.pa, 0, none⟩) :: .pointer (some ⟨L.pt, 0, none⟩) :: (S.roots.map (fun r : Nat => Value.int .u64 (r : Int)) ++ [S.wt])) 86 true)
 arena : h.get L.pa = some (.cells [.slice (some ⟨L.bw, 0, none⟩) S.W S.W, .slice (some ⟨L.bb, 0, none⟩) (S.W / 64 + 1) (S.W / 64 + 1), .int .i64 S.top, .int .i64 S.low, .int .i64 S.high, .bool S.open_] 88 true)
 table : h.get L.pt = some (.cells [.slice (some ⟨L.bs, 0, none⟩) S.nS S.nS, .int .i64 S.fresh, .int .i64 S.freed, .int .i64 S.cnt] 94 true)
 words : h.get L.bw = some (.cells (wcells S.W S.w) 33 true)
 begins : h.get L.bb = some (.cells (wcells (S.W / 64 + 1) S.bg) 33 true)
 slots : h.get L.bs = some (.cells (scells S.nS S.sl) 159 true)
structure KeepB (L : HL) (h h' : Heap) : Prop where
 get : ∀ b o, b ∉ L.blocks → h.get b = some o → h'.get b = some o
 next : h.next ≤ h'.next
theorem KeepB.refl (L : HL) (h : Heap) : KeepB L h h := ⟨fun _ _ _ x => x, Nat.le_refl _⟩
theorem KeepB.trans {L : HL} {h h1 h2 : Heap} (a : KeepB L h h1) (b : KeepB L h1 h2) : KeepB L h h2 := ⟨fun x o n y => b.get x o n (a.get x o n y), Nat.le_trans a.next b.next⟩
end Go.Proofs.YthfopcdammlmfaaGreatDoor
namespace Go.Tm
open Go.Proofs.YthfopcdammlmfaaGreatDoor
theorem Keep.b {h h' : Heap} (k : Keep h h') (L : HL) : KeepB L h h' := ⟨fun b o _ x => k.get b o x, k.next⟩
theorem Keep.putNew {E : Env} {h h2 : Heap} {b : Nat} {o : AObj} (k : Keep h h2) (hW : WF E h) (hb : h.next ≤ b) : Keep h (h2.put b o) := ⟨fun j p hj => by
 rw [get_put, if_neg (by have := (hW.live j p hj).2; omega)]; exact k.get j p hj, by simpa using k.next⟩
end Go.Tm
namespace Go.Proofs.YthfopcdammlmfaaGreatDoor
open Go.Tm
theorem IsH.keep {E : Env} {h h' : Heap} {L : HL} {S : HS} (H : IsH E h L S) (k : Keep h h') : IsH E h' L S :=
 ⟨H.ok, H.nd, H.base, k.get _ _ H.heap, k.get _ _ H.arena, k.get _ _ H.table, k.get _ _ H.words, k.get _ _ H.begins, k.get _ _ H.slots⟩
def Sep (L : HL) (G : Mem) : Prop := ∀ b, b ∈ L.blocks → G b = none
theorem Sep.frz {E : Env} {L : HL} {G : Mem} {h h' : Heap} (s : Sep L G) (f : Frz E G h) (k : KeepB L h h') : Frz E G h' := fun b c hb => by
 obtain ⟨e, fx, hh⟩ := f b c hb
 exact ⟨e, fx, k.get _ _ (fun hm => by rw [s b hm] at hb; cases hb) hh⟩
section
variable {E : Env} {h : Heap} {L : HL} {S : HS} (H : IsH E h L S)
include H
theorem IsH.nlt {b : Nat} (hb : b ∈ L.blocks) : (b < E.base) = False := by have := H.base b hb; simp; omega
theorem IsH.n_ph : (L.ph < E.base) = False := H.nlt (by simp [HL.blocks])
theorem IsH.n_pa : (L.pa < E.base) = False := H.nlt (by simp [HL.blocks])
theorem IsH.n_pt : (L.pt < E.base) = False := H.nlt (by simp [HL.blocks])
theorem IsH.n_bw : (L.bw < E.base) = False := H.nlt (by simp [HL.blocks])
theorem IsH.n_bb : (L.bb < E.base) = False := H.nlt (by simp [HL.blocks])
theorem IsH.n_bs : (L.bs < E.base) = False := H.nlt (by simp [HL.blocks])
theorem IsH.lA : acells E h ⟨L.ph, 0, none⟩ 1 = some [.pointer (some ⟨L.pa, 0, none⟩)] := by simp [acells, H.n_ph, H.heap]
theorem IsH.lT : acells E h ⟨L.ph, 1, none⟩ 1 = some [.pointer (some ⟨L.pt, 0, none⟩)] := by simp [acells, H.n_ph, H.heap]
theorem IsH.lW : acells E h ⟨L.ph, 18, none⟩ 1 = some [S.wt] := by
 have hr := H.ok.roots
 have hl : (S.roots.map (fun r : Nat => Value.int .u64 (r : Int))).length = 16 := by simp [hr]
 have hd : (S.roots.map (fun r : Nat => Value.int .u64 (r : Int)) ++ [S.wt]).drop 16 = [S.wt] := by rw [← hl, List.drop_left]
 simp [acells, H.n_ph, H.heap, hr, hd]
theorem IsH.lWords : acells E h ⟨L.pa, 0, none⟩ 1 = some [.slice (some ⟨L.bw, 0, none⟩) S.W S.W] := by simp [acells, H.n_pa, H.arena]
theorem IsH.lBegins : acells E h ⟨L.pa, 1, none⟩ 1 = some [.slice (some ⟨L.bb, 0, none⟩) (S.W / 64 + 1) (S.W / 64 + 1)] := by simp [acells, H.n_pa, H.arena]
theorem IsH.lTop : acells E h ⟨L.pa, 2, none⟩ 1 = some [.int .i64 S.top] := by simp [acells, H.n_pa, H.arena]
theorem IsH.lLow : acells E h ⟨L.pa, 3, none⟩ 1 = some [.int .i64 S.low] := by simp [acells, H.n_pa, H.arena]
theorem IsH.lHigh : acells E h ⟨L.pa, 4, none⟩ 1 = some [.int .i64 S.high] := by simp [acells, H.n_pa, H.arena]
theorem IsH.lOpen : acells E h ⟨L.pa, 5, none⟩ 1 = some [.bool S.open_] := by simp [acells, H.n_pa, H.arena]
theorem IsH.lSlots : acells E h ⟨L.pt, 0, none⟩ 1 = some [.slice (some ⟨L.bs, 0, none⟩) S.nS S.nS] := by simp [acells, H.n_pt, H.table]
theorem IsH.lFresh : acells E h ⟨L.pt, 1, none⟩ 1 = some [.int .i64 S.fresh] := by simp [acells, H.n_pt, H.table]
theorem IsH.lFreed : acells E h ⟨L.pt, 2, none⟩ 1 = some [.int .i64 S.freed] := by simp [acells, H.n_pt, H.table]
theorem IsH.lCnt : acells E h ⟨L.pt, 3, none⟩ 1 = some [.int .i64 S.cnt] := by simp [acells, H.n_pt, H.table]
theorem IsH.lw {i : Nat} (hi : i < S.W) : acells E h ⟨L.bw, i, none⟩ 1 = some [.int .u64 (S.w i)] := by
 have h1 : i + 1 ≤ (wcells S.W S.w).length := by rw [wcells_len]; omega
 simp [acells, H.n_bw, H.words, h1, wcells_at hi]
theorem IsH.lb {i : Nat} (hi : i < S.W / 64 + 1) : acells E h ⟨L.bb, i, none⟩ 1 = some [.int .u64 (S.bg i)] := by
 have h1 : i + 1 ≤ (wcells (S.W / 64 + 1) S.bg).length := by rw [wcells_len]; omega
 simp [acells, H.n_bb, H.begins, h1, wcells_at hi]
theorem IsH.ls {i : Nat} (hi : i < S.nS) : acells E h ⟨L.bs, i * 4, none⟩ 4 = some (scell (S.sl i)) := by
 have h1 : i * 4 + 4 ≤ (scells S.nS S.sl).length := by rw [scells_len]; omega
 simp [acells, H.n_bs, H.slots, h1, scells_at hi]
theorem IsH.lGen {i : Nat} (hi : i < S.nS) : acells E h ⟨L.bs, i * 4, none⟩ 1 = some [.int .u32 (S.sl i).gen] := acells_part (H.ls hi) 0 1 (by omega)
theorem IsH.lTaken {i : Nat} (hi : i < S.nS) : acells E h ⟨L.bs, i * 4 + 1, none⟩ 1 = some [.bool (S.sl i).taken] := acells_part (H.ls hi) 1 1 (by omega)
theorem IsH.lAt {i : Nat} (hi : i < S.nS) : acells E h ⟨L.bs, i * 4 + 2, none⟩ 1 = some [.int .i64 (S.sl i).at_] := acells_part (H.ls hi) 2 1 (by omega)
theorem IsH.lNext {i : Nat} (hi : i < S.nS) : acells E h ⟨L.bs, i * 4 + 3, none⟩ 1 = some [.int .i64 (S.sl i).next] := acells_part (H.ls hi) 3 1 (by omega)
end
theorem put_keepB {L : HL} {h : Heap} {b : Nat} {o : AObj} (hb : b ∈ L.blocks) : KeepB L h (h.put b o) := ⟨fun j p hj hg => by
 rw [get_put]
 by_cases e : b = j
 ·subst e; exact (hj hb).elim
 ·rw [if_neg e]; exact hg, by simp⟩
theorem awrite_of {h : Heap} {b off : Nat} {c vs : List Value} {e : TypeId} {fx : Bool} (hg : h.get b = some (.cells c e fx)) (hl : off + vs.length ≤ c.length) (ho : vs.all Value.oneCell' = true) : awrite h ⟨b, off, none⟩ vs = some (h.put b (.cells (splice c off vs) e fx)) := by
 simp only [awrite, hg]
 rw [if_pos ⟨hl, ho⟩]
section
variable {E : Env} {h : Heap} {L : HL} {S : HS} (H : IsH E h L S) (hW : WF E h)
include H hW
def Wrote (E : Env) (h : Heap) (L : HL) (S' : HS) (r : Option Heap) : Prop := ∃ h', r = some h' ∧ IsH E h' L S' ∧ KeepB L h h' ∧ WF E h'
omit hW in
theorem IsH.ne : L.ph ≠ L.pa ∧ L.ph ≠ L.pt ∧ L.ph ≠ L.bw ∧ L.ph ≠ L.bb ∧ L.ph ≠ L.bs ∧ L.pa ≠ L.pt ∧ L.pa ≠ L.bw ∧ L.pa ≠ L.bb ∧ L.pa ≠ L.bs ∧ L.pt ≠ L.bw ∧ L.pt ≠ L.bb ∧ L.pt ≠ L.bs ∧ L.bw ≠ L.bb ∧ L.bw ≠ L.bs ∧ L.bb ≠ L.bs := by
 have := H.nd
 simp only [HL.blocks, List.nodup_cons, List.mem_cons, List.not_mem_nil, or_false, not_or] at this
 omega
theorem IsH.setWords {w : Nat → Nat} (hw : ∀ i, w i < 18446744073709551616) {o : AObj} (ho : o = .cells (wcells S.W w) 33 true) : IsH E (h.put L.bw o) L { S with w := w } ∧ KeepB L h (h.put L.bw o) ∧ WF E (h.put L.bw o) := by
 subst ho
 have hn := H.ne
 refine ⟨⟨{ H.ok with w := hw }, H.nd, H.base, ?_, ?_, ?_, ?_, ?_, ?_⟩, put_keepB (by simp [HL.blocks]), hW.put H.words⟩ <;> rw [get_put]
 ·rw [if_neg (by omega)]; exact H.heap
 ·rw [if_neg (by omega)]; exact H.arena
 ·rw [if_neg (by omega)]; exact H.table
 ·rw [if_pos rfl]
 ·rw [if_neg (by omega)]; exact H.begins
 ·rw [if_neg (by omega)]; exact H.slots
theorem IsH.setBegins {w : Nat → Nat} (hw : ∀ i, w i < 18446744073709551616) {o : AObj} (ho : o = .cells (wcells (S.W / 64 + 1) w) 33 true) : IsH E (h.put L.bb o) L { S with bg := w } ∧ KeepB L h (h.put L.bb o) ∧ WF E (h.put L.bb o) := by
 subst ho
 have hn := H.ne
 refine ⟨⟨{ H.ok with bg := hw }, H.nd, H.base, ?_, ?_, ?_, ?_, ?_, ?_⟩, put_keepB (by simp [HL.blocks]), hW.put H.begins⟩ <;> rw [get_put]
 ·rw [if_neg (by omega)]; exact H.heap
 ·rw [if_neg (by omega)]; exact H.arena
 ·rw [if_neg (by omega)]; exact H.table
 ·rw [if_neg (by omega)]; exact H.words
 ·rw [if_pos rfl]
 ·rw [if_neg (by omega)]; exact H.slots
theorem IsH.setSlots {sl : Nat → Slot} (ok : ({ S with sl := sl } : HS).Ok) {o : AObj} (ho : o = .cells (scells S.nS sl) 159 true) : IsH E (h.put L.bs o) L { S with sl := sl } ∧ KeepB L h (h.put L.bs o) ∧ WF E (h.put L.bs o) := by
 subst ho
 have hn := H.ne
 refine ⟨⟨ok, H.nd, H.base, ?_, ?_, ?_, ?_, ?_, ?_⟩, put_keepB (by simp [HL.blocks]), hW.put H.slots⟩ <;> rw [get_put]
 ·rw [if_neg (by omega)]; exact H.heap
 ·rw [if_neg (by omega)]; exact H.arena
 ·rw [if_neg (by omega)]; exact H.table
 ·rw [if_neg (by omega)]; exact H.words
 ·rw [if_neg (by omega)]; exact H.begins
 ·rw [if_pos rfl]
theorem IsH.setArena {t l g : Nat} {p : Bool} (ok : ({ S with top := t, low := l, high := g, open_ := p } : HS).Ok) {o : AObj} (ho : o = .cells [.slice (some ⟨L.bw, 0, none⟩) S.W S.W, .slice (some ⟨L.bb, 0, none⟩) (S.W / 64 + 1) (S.W / 64 + 1), .int .i64 t, .int .i64 l, .int .i64 g, .bool p] 88 true) : IsH E (h.put L.pa o) L { S with top := t, low := l, high := g, open_ := p } ∧ KeepB L h (h.put L.pa o) ∧ WF E (h.put L.pa o) := by
 subst ho
 have hn := H.ne
 refine ⟨⟨ok, H.nd, H.base, ?_, ?_, ?_, ?_, ?_, ?_⟩, put_keepB (by simp [HL.blocks]), hW.put H.arena⟩ <;> rw [get_put]
 ·rw [if_neg (by omega)]; exact H.heap
 ·rw [if_pos rfl]
 ·rw [if_neg (by omega)]; exact H.table
 ·rw [if_neg (by omega)]; exact H.words
 ·rw [if_neg (by omega)]; exact H.begins
 ·rw [if_neg (by omega)]; exact H.slots
theorem IsH.setTable {f g c : Nat} (ok : ({ S with fresh := f, freed := g, cnt := c } : HS).Ok) {o : AObj} (ho : o = .cells [.slice (some ⟨L.bs, 0, none⟩) S.nS S.nS, .int .i64 f, .int .i64 g, .int .i64 c] 94 true) : IsH E (h.put L.pt o) L { S with fresh := f, freed := g, cnt := c } ∧ KeepB L h (h.put L.pt o) ∧ WF E (h.put L.pt o) := by
 subst ho
 have hn := H.ne
 refine ⟨⟨ok, H.nd, H.base, ?_, ?_, ?_, ?_, ?_, ?_⟩, put_keepB (by simp [HL.blocks]), hW.put H.table⟩ <;> rw [get_put]
 ·rw [if_neg (by omega)]; exact H.heap
 ·rw [if_neg (by omega)]; exact H.arena
 ·rw [if_pos rfl]
 ·rw [if_neg (by omega)]; exact H.words
 ·rw [if_neg (by omega)]; exact H.begins
 ·rw [if_neg (by omega)]; exact H.slots
theorem IsH.wWord {i x : Nat} (hi : i < S.W) (hx : x < 18446744073709551616) : Wrote E h L { S with w := updN S.w i x } (awrite h ⟨L.bw, i, none⟩ [.int .u64 x]) := by
 refine ⟨_, awrite_of H.words (by rw [wcells_len]; simp; omega) rfl, ?_⟩
 exact H.setWords hW (fun j => by unfold updN; split; exact hx; exact H.ok.w j) (by rw [wcells_set hi])
theorem IsH.wClear {i k : Nat} (hi : i + k ≤ S.W) : Wrote E h L { S with w := clrN S.w i k } (awrite h ⟨L.bw, i, none⟩ (arep k [.int .u64 0])) := by
 have ho : (arep k [Value.int .u64 0]).all Value.oneCell' = true := by
  rw [List.all_eq_true]
  intro v hv
  have := arep_mem hv
  simp at this; subst this; rfl
 refine ⟨_, awrite_of H.words (by rw [wcells_len, arep_len]; simp; omega) ho, ?_⟩
 exact H.setWords hW (fun j => by unfold clrN; split; decide; exact H.ok.w j) (by rw [wcells_clr hi])
theorem IsH.wBegin {i x : Nat} (hi : i < S.W / 64 + 1) (hx : x < 18446744073709551616) : Wrote E h L { S with bg := updN S.bg i x } (awrite h ⟨L.bb, i, none⟩ [.int .u64 x]) := by
 refine ⟨_, awrite_of H.begins (by rw [wcells_len]; simp; omega) rfl, ?_⟩
 exact H.setBegins hW (fun j => by unfold updN; split; exact hx; exact H.ok.bg j) (by rw [wcells_set hi])
theorem IsH.wTop {x : Nat} (hx : x ≤ S.W) : Wrote E h L { S with top := x } (awrite h ⟨L.pa, 2, none⟩ [.int .i64 x]) := by
 refine ⟨_, awrite_of H.arena (by simp) rfl, ?_⟩
 exact H.setArena hW (t := x) (l := S.low) (g := S.high) (p := S.open_) { H.ok with top := hx } rfl
theorem IsH.wFresh {x : Nat} (hx : x ≤ S.nS) : Wrote E h L { S with fresh := x } (awrite h ⟨L.pt, 1, none⟩ [.int .i64 x]) := by
 refine ⟨_, awrite_of H.table (by simp) rfl, ?_⟩
 exact H.setTable hW (f := x) (g := S.freed) (c := S.cnt) { H.ok with fresh := hx } rfl
theorem IsH.wFreed {x : Nat} (hx : x ≤ S.nS) : Wrote E h L { S with freed := x } (awrite h ⟨L.pt, 2, none⟩ [.int .i64 x]) := by
 refine ⟨_, awrite_of H.table (by simp) rfl, ?_⟩
 exact H.setTable hW (f := S.fresh) (g := x) (c := S.cnt) { H.ok with freed := hx } rfl
theorem IsH.wCnt {x : Nat} (hx : x ≤ S.nS) : Wrote E h L { S with cnt := x } (awrite h ⟨L.pt, 3, none⟩ [.int .i64 x]) := by
 refine ⟨_, awrite_of H.table (by simp) rfl, ?_⟩
 exact H.setTable hW (f := S.fresh) (g := S.freed) (c := x) { H.ok with cnt := hx } rfl
theorem IsH.wSlot {i j : Nat} {v : Value} {s : Slot} (hi : i < S.nS) (hj : j < 4) (ho : v.oneCell' = true) (hs : splice (scell (S.sl i)) j [v] = scell s) (hg : s.gen < 4294967296) (ha : s.at_ ≤ 1048576) (hn : s.next ≤ 1048576) :
 Wrote E h L { S with sl := updN S.sl i s } (awrite h ⟨L.bs, i * 4 + j, none⟩ [v]) := by
 refine ⟨_, awrite_of H.slots (by rw [scells_len]; simp; omega) (by simp [ho]), ?_⟩
 refine H.setSlots hW (sl := updN S.sl i s) { H.ok with gen := fun k => ?_, at_ := fun k => ?_, next := fun k => ?_ } ?_
 rotate_left 3
 ·rw [scells_set hi (by simp; omega) hs]
 ·show (updN S.sl i s k).gen < _; unfold updN; split; exact hg; exact H.ok.gen k
 ·show (updN S.sl i s k).at_ ≤ _; unfold updN; split; exact ha; exact H.ok.at_ k
 ·show (updN S.sl i s k).next ≤ _; unfold updN; split; exact hn; exact H.ok.next k
end
end Go.Proofs.YthfopcdammlmfaaGreatDoor
namespace Go.Proofs.YthfopcdammlmfaaGreatDoor
open Go.Tm
variable {E : Env} (hE : EOk E)
include hE
section
variable {h : Heap} {L : HL} {S : HS} (H : IsH E h L S)
include H
theorem arena_at : CallsTo E 12 [.pointer (some ⟨L.ph, 0, none⟩)] h fun v h' => v = .pointer (some ⟨L.pa, 0, none⟩) ∧ h' = h := by
 refine en hE Tryz.func12 rfl rfl Tryz.ntmps12 rfl (by decide +kernel) (rs := [.tmp 2]) rfl ?_
 simp only [push_cast, seval, hE.P, zz, ↓H.lA]
theorem table_at : CallsTo E 15 [.pointer (some ⟨L.ph, 0, none⟩)] h fun v h' => v = .pointer (some ⟨L.pt, 0, none⟩) ∧ h' = h := by
 refine en hE Tryz.func15 rfl rfl Tryz.ntmps15 rfl (by decide +kernel) (rs := [.tmp 2]) rfl ?_
 simp only [push_cast, seval, hE.P, zz, ↓H.lT]
theorem top_at : CallsTo E 13 [.pointer (some ⟨L.pa, 0, none⟩)] h fun v h' => v = .int .i64 S.top ∧ h' = h := by
 refine en hE Tryz.func13 rfl rfl Tryz.ntmps13 rfl (by decide +kernel) (rs := [.tmp 2]) rfl ?_
 simp only [push_cast, seval, hE.P, zz, ↓H.lTop]
theorem count_at : CallsTo E 16 [.pointer (some ⟨L.pt, 0, none⟩)] h fun v h' => v = .int .i64 S.cnt ∧ h' = h := by
 refine en hE Tryz.func16 rfl rfl Tryz.ntmps16 rfl (by decide +kernel) (rs := [.tmp 2]) rfl ?_
 simp only [push_cast, seval, hE.P, zz, ↓H.lCnt]
theorem slots_at : CallsTo E 99 [.pointer (some ⟨L.pt, 0, none⟩)] h fun v h' => v = .int .i64 S.nS ∧ h' = h := by
 refine en hE Tryz.func99 rfl rfl Tryz.ntmps99 rfl (by decide +kernel) (rs := [.tmp 2]) rfl ?_
 simp only [push_cast, seval, hE.P, zz, ↓H.lSlots]
theorem free_at : CallsTo E 72 [.pointer (some ⟨L.pa, 0, none⟩)] h fun v h' => v = .int .i64 ((S.W : Int) - S.top) ∧ h' = h := by
 have h1 := H.ok.W; have h2 := H.ok.top
 refine en hE Tryz.func72 rfl rfl Tryz.ntmps72 rfl (by decide +kernel) (rs := [.tmp 2]) rfl ?_
 simp only [push_cast, seval, hE.P, zz]
 refine wdraw_calm (by rw [hE.P]; decide +kernel) ?_
 simp only [push_cast, seval, hE.P, zz, ↓H.lWords, ↓H.lTop]
 rw [wr64 (by omega) (by omega)]
theorem is_at {a : Nat} (ha : a ≤ 1048576) : CallsTo E 110 [.pointer (some ⟨L.pa, 0, none⟩), .int .i64 a] h fun v h' => v = .bool (decide (a < S.W) && bitB S.bg a) ∧ h' = h := by
 have hbg := H.ok.bg (a / 64)
 refine en hE Tryz.func110 rfl rfl Tryz.ntmps110 rfl (by decide +kernel) (rs := [.tmp 4]) rfl ?_
 simp only [push_cast, seval, hE.P, zz]
 have g0 : decide ((a : Int) ≥ 0) = true := by simp
 refine kguard_splitT (fun _ => ?_) (fun hb => by rw [g0] at hb; cases hb)
 simp only [push_cast, seval, hE.P, zz, g0, ↓H.lWords]
 refine kguard_splitT (fun hb => ?_) (fun hb => ?_)
 ·have hlt : a < S.W := by simpa using hb
  simp only [push_cast, seval, hE.P, zz, hb, ↓H.lBegins]
  obtain ⟨q, hq⟩ : ∃ q, q = a / 64 := ⟨_, rfl⟩
  obtain ⟨r, hr⟩ : ∃ r, r = a % 64 := ⟨_, rfl⟩
  have hq2 : (a : Int) / 64 = q := by omega
  have hr2 : (a : Int).tmod 64 = r := by rw [Int.tmod_eq_emod_of_nonneg (by omega)]; omega
  rw [← hq] at hbg
  rw [Int.tdiv_eq_ediv_of_nonneg (by omega), hq2, wrN (by omega), ia50 rfl (by omega) (by omega), kpure_some]
  simp only [push_cast, seval, hE.P, zz, hb, ↓H.lBegins, ↓H.lb (i := q) (by omega), hr2]
  have hn : ¬ ((r : Int) < 0) := by omega
  simp only [push_cast, seval, hE.P, zz, hb, hn]
  rw [shr_nat' (by omega), and1 (Nat.lt_of_le_of_lt (Nat.div_le_self _ _) hbg)]
  refine congrArg _ ?_
  rw [decide_eq_true hlt, Bool.true_and]
  unfold bitB
  rw [← hq, ← hr, Bool.eq_iff_iff]
  generalize S.bg q / 2 ^ r % 2 = y
  simp; omega
 ·have hlt : ¬ a < S.W := by simpa using hb
  simp only [push_cast, seval, hE.P, zz, hb]
  simp [hlt]
end
theorem packed_at {h : Heap} (hW : WF E h) {d : Hd} (ho : d.ok) : CallsTo E 148 [.agg #[.int .i64 d.tag, .int .i64 d.refs, .int .i64 d.size, .bool d.mark, .int .i64 d.owner]] h fun v h' => v = .int .u64 (packN d) ∧ Keep h h' ∧ WF E h' := by
 refine en hE Tryz.func148 rfl rfl Tryz.ntmps148 rfl (by decide +kernel) (rs := [.tmp 2]) rfl ?_
 simp only [push_cast, seval, hE.P, zz, hW.nb, hW.nb0]
 refine kif_split (fun hb => ?_) (fun hb => ?_)
 ·have hp := packT ho hb
  generalize packN d = z at *
  simp only [push_cast, seval, hE.P, zz, hp]
  exact ⟨(Keep.refl h).push hW, hW.push _⟩
 ·have hp := packF ho hb
  generalize packN d = z at *
  simp only [push_cast, seval, hE.P, zz, hp]
  exact ⟨(Keep.refl h).push hW, hW.push _⟩
theorem unpacked_at {h : Heap} (hW : WF E h) {x : Nat} (hx : x < 18446744073709551616) : CallsTo E 111 [.int .u64 x] h fun v h' => v = .agg #[.int .i64 (unpackN x).tag, .int .i64 (unpackN x).refs, .int .i64 (unpackN x).size, .bool (unpackN x).mark, .int .i64 (unpackN x).owner] ∧ Keep h h' ∧ WF E h' := by
 refine en hE Tryz.func111 rfl rfl Tryz.ntmps111 rfl (by decide +kernel) (rs := [.cell 2 103]) rfl ?_
 simp only [push_cast, seval, hE.P, zz, hW.nb, hW.nb0]
 rw [and255 hx, shr9, and8191 (by omega), shr22, and8191 (by omega), shr8, and1 (by omega), shr35, and20 (by omega), wrN (by omega), wrN (by omega), wrN (by omega), wrN (by omega)]
 refine ⟨?_, (Keep.refl h).push hW, hW.push _⟩
 have : ((((x / 256 % 2 : Nat) : Int) == 1) = (x / 256 % 2 == 1)) := by
  rw [Bool.eq_iff_iff]; simp; omega
 rw [this]; rfl
section
variable {h : Heap} {L : HL} {S : HS} (H : IsH E h L S) (hW : WF E h)
include H hW
def headAt (S : HS) (a : Nat) : Hd := if (decide (a < S.W) && bitB S.bg a) then unpackN (S.w a) else ⟨0, 0, 0, false, 0⟩
def isAt (S : HS) (a : Nat) : Bool := decide (a < S.W) && bitB S.bg a
theorem ahead_at {a : Nat} (ha : a ≤ 1048576) : CallsTo E 57 [.pointer (some ⟨L.pa, 0, none⟩), .int .i64 a] h fun v h' =>
 v = .tuple #[.agg #[.int .i64 (headAt S a).tag, .int .i64 (headAt S a).refs, .int .i64 (headAt S a).size, .bool (headAt S a).mark, .int .i64 (headAt S a).owner], .int .i64 (if isAt S a then 0 else 1)] ∧ Keep h h' ∧ WF E h' := by
 refine en hE Tryz.func57 rfl rfl Tryz.ntmps57 rfl (by decide +kernel) (rs := [.cell 4 103, .tmp 5]) rfl ?_
 simp only [push_cast, seval, hE.P, zz, hW.nb, hW.nb0]
 have k0 := (Keep.refl h).push (o := .cells [.int .i64 0, .int .i64 0, .int .i64 0, .bool false, .int .i64 0] 103 true) hW
 have w0 := hW.push (.cells [.int .i64 0, .int .i64 0, .int .i64 0, .bool false, .int .i64 0] 103 true)
 have H0 := H.keep k0
 refine (is_at hE H0 ha).mono ?_
 rintro v h1 ⟨rfl, rfl⟩
 simp only [push_cast, seval, hE.P, zz]
 refine kif_split (fun hb => ?_) (fun hb => ?_)
 ·have hb' : isAt S a = false := by rw [Bool.not_eq_true'] at hb; exact hb
  have hh : headAt S a = ⟨0, 0, 0, false, 0⟩ := by unfold headAt; unfold isAt at hb'; rw [if_neg (by rw [hb']; simp)]
  simp only [push_cast, seval, hE.P, zz, hW.nb, hW.nb0]
  rw [hh, hb']
  exact ⟨rfl, k0, w0⟩
 ·have hb' : isAt S a = true := by rw [Bool.not_eq_false'] at hb; exact hb
  have hh : headAt S a = unpackN (S.w a) := by unfold headAt; unfold isAt at hb'; rw [if_pos hb']
  have hlt : a < S.W := by unfold isAt at hb'; simp at hb'; exact hb'.1
  simp only [push_cast, seval, hE.P, zz, hW.nb, hW.nb0, ↓H0.lWords]
  rw [ia50 rfl (by omega) (by omega), kpure_some]
  simp only [push_cast, seval, hE.P, zz, hW.nb, hW.nb0, ↓H0.lw (i := a) hlt]
  refine (unpacked_at hE w0 (H.ok.w a)).mono ?_
  rintro v h2 ⟨rfl, hk2, hw2⟩
  have g2 := hk2.get h.next _ (by simp only [get_push, if_true]; rfl)
  simp only [push_cast, seval, hE.P, zz, g2, hW.nb0]
  rw [hh, hb']
  exact ⟨rfl, (k0.trans hk2).putNew hW (Nat.le_refl _), hw2.put g2⟩
theorem word_at {a : Nat} (ha : a ≤ 1048576) {i : Int} (hi1 : -9223372036854775808 ≤ i) (hi2 : i ≤ 9223372036854775807) : CallsTo E 147 [.pointer (some ⟨L.pa, 0, none⟩), .int .i64 a, .int .i64 i] h fun v h' =>
 v = (if isAt S a = true ∧ 0 ≤ i ∧ i < (headAt S a).size then .tuple #[.int .i64 ((a : Int) + 1 + i), .int .i64 0] else .tuple #[.int .i64 0, .int .i64 1]) ∧ Keep h h' ∧ WF E h' := by
 have hok := unpack_ok (S.w a)
 have hsz : (headAt S a).size < 8192 := by unfold headAt; split; exact hok.2.2.1; decide
 refine en hE Tryz.func147 rfl rfl Tryz.ntmps147 rfl (by decide +kernel) (rs := [.tmp 6, .tmp 7]) rfl ?_
 simp only [push_cast, seval, hE.P, zz]
 refine (ahead_at hE H hW ha).mono ?_
 rintro v h1 ⟨rfl, hk1, hw1⟩
 simp only [push_cast, seval, hE.P, zz, hw1.nb0]
 have k1 := hk1.push (o := .cells [.int .i64 (headAt S a).tag, .int .i64 (headAt S a).refs, .int .i64 (headAt S a).size, .bool (headAt S a).mark, .int .i64 (headAt S a).owner] 103 true) hw1
 have w1 := hw1.push (.cells [.int .i64 (headAt S a).tag, .int .i64 (headAt S a).refs, .int .i64 (headAt S a).size, .bool (headAt S a).mark, .int .i64 (headAt S a).owner] 103 true)
 cases hA : isAt S a with
 | false =>
   simp only [push_cast, seval, hE.P, zz, hA]
   exact ⟨rfl, k1, w1⟩
 | true =>
   simp only [push_cast, seval, hE.P, zz, hA]
   refine kguard_splitF (fun hb => ?_) (fun hb => ?_)
   ·have h0 : 0 ≤ i := by simpa using hb
    simp only [push_cast, seval, hE.P, zz, hb, hw1.nb, hw1.nb0]
    refine kif_split (fun hb2 => ?_) (fun hb2 => ?_)
    ·have h2 : ¬ i < (headAt S a).size := by simpa using hb2
     simp only [push_cast, seval, hE.P, zz]
     exact ⟨by rw [if_neg (by omega)], k1, w1⟩
    ·have h2 : i < (headAt S a).size := by simpa using hb2
     simp only [push_cast, seval, hE.P, zz]
     refine ⟨?_, k1, w1⟩
     rw [if_pos ⟨h0, h2⟩, wr64 (x := (a : Int) + 1) (by omega) (by omega), wr64 (by omega) (by omega)]
   ·have h0 : ¬ 0 ≤ i := by have : i < 0 := by simpa using hb
                            omega
    simp only [push_cast, seval, hE.P, zz, hb, hw1.nb, hw1.nb0]
    exact ⟨by rw [if_neg (by omega)], k1, w1⟩
theorem get_at {a i : Nat} (ha : a ≤ 1048576) (hA : isAt S a = true) (hi : i < (headAt S a).size) (hlt : a + 1 + i < S.W) : CallsTo E 113 [.pointer (some ⟨L.pa, 0, none⟩), .int .i64 a, .int .i64 i] h fun v h' =>
 v = .tuple #[.int .u64 (S.w (a + 1 + i)), .int .i64 0] ∧ Keep h h' ∧ WF E h' := by
 have hw := H.ok.W
 refine en hE Tryz.func113 rfl rfl Tryz.ntmps113 rfl (by decide +kernel) (rs := [.tmp 6, .tmp 7]) rfl ?_
 simp only [push_cast, seval, hE.P, zz]
 refine (word_at hE H hW ha (i := i) (by omega) (by omega)).mono ?_
 rintro v h1 ⟨rfl, hk1, hw1⟩
 have H1 := H.keep hk1
 rw [if_pos ⟨hA, by omega, by omega⟩]
 obtain ⟨p, hp⟩ : ∃ p, p = a + 1 + i := ⟨_, rfl⟩
 have hp2 : (a : Int) + 1 + i = p := by omega
 rw [hp2]
 simp only [push_cast, seval, hE.P, zz, ↓H1.lWords]
 rw [ia50 rfl (by omega) (by omega), kpure_some]
 simp only [push_cast, seval, hE.P, zz, ↓H1.lw (i := p) (by omega)]
 rw [← hp]
 exact ⟨rfl, hk1, hw1⟩
theorem fits_at {t r s o : Int} : CallsTo E 167 [.int .i64 t, .int .i64 r, .int .i64 s, .int .i64 o] h fun v h' => v = .int .i64 (if t < 1 ∨ t > 255 ∨ s < 0 ∨ s > 4096 ∨ r < 0 ∨ r > s ∨ o < 0 ∨ o ≥ 1048576 then 1 else 0) ∧ h' = h := by
 refine en hE Tryz.func167 rfl rfl Tryz.ntmps167 rfl (by decide +kernel) (rs := [.tmp 8]) rfl ?_
 simp only [push_cast, seval, hE.P, zz]
 refine kguard_cut (fun tm h' => fget tm 39 = .bool (decide (t < 1 ∨ t > 255 ∨ s < 0 ∨ s > 4096 ∨ r < 0 ∨ r > s ∨ o < 0 ∨ o ≥ 1048576)) ∧ h' = h) ?_ ?_
 rotate_left
 ·repeat' (first | (refine kguard_splitF (fun hb => ?_) (fun hb => ?_) <;> simp only [push_cast, seval, hE.P, zz, hb]) | (refine kguard_splitT (fun hb => ?_) (fun hb => ?_) <;> simp only [push_cast, seval, hE.P, zz, hb]))
  all_goals (simp only [decide_eq_true_eq, decide_eq_false_iff_not] at *; refine congrArg _ ?_; simp [*])
 ·rintro tm h' ⟨f39, rfl⟩
  simp only [push_cast, seval, hE.P, zz, f39]
  refine kif_split (fun hb => ?_) (fun hb => ?_)
  ·have := of_decide_eq_true hb
   simp only [push_cast, seval, hE.P, zz]
   rw [if_pos this]
  ·have := of_decide_eq_false hb
   simp only [push_cast, seval, hE.P, zz]
   rw [if_neg this]
end
end Go.Proofs.YthfopcdammlmfaaGreatDoor
