/- doc.Compare, whatever was freed. -/
/- Merged by a program of ours: N11 N12 N13 N14. -/
import Derived.Test.YthfopcdammlmfaaGreatDoorN2
import Derived.Test.YthfopcdammlmfaaGreatDoorN3
import Derived.Test.YthfopcdammlmfaaGreatDoorD1
import Derived.Test.YthfopcdammlmfaaGreatDoorB3
import Derived.Test.YthfopcdammlmfaaGreatDoorC4
import Derived.Test.YthfopcdammlmfaaGreatDoorC6
import Derived.Test.YthfopcdammlmfaaGreatDoorJ1
set_option maxRecDepth 10000
set_option linter.all false
set_option linter.unusedSimpArgs false
set_option linter.unusedVariables false
/- The reader: reading a value. -/
namespace Go.Proofs.YthfopcdammlmfaaGreatDoor.G
open Go.Tm
variable {E : Env} (hE : EOk E)
include hE
theorem readv_at {h0 : Heap} {L : HL} {W nS : Nat} {R : List Nat} {O : Om} (H : IsO E h0 L W nS R O) (hW : WF E h0) {rb : Nat} (hrb : ∀ b, b ∈ L.blocks → b < rb) (hr : h0.get rb = some (.cells [.pointer (some ⟨L.ph, 0, none⟩), .int .i64 2048] 125 true)) {x : Nat} (hx : x < 18446744073709551616) :
 CallsTo E 104 [.pointer (some ⟨rb, 0, none⟩), .int .u64 x] h0 (Kr E O h0 rb x) := by
 have hrb2 := hW.live _ _ hr
 have nbr : (rb < E.base) = False := by simp; omega
 refine en hE Tryz.func104 rfl rfl Tryz.ntmps104 rfl (by decide +kernel) (rs := [.cell 4 25, .tmp 5]) rfl ?_
 simp only [push_cast, seval, hE.P, wpc_block, hW.nb, hW.nb0]
 refine wpc_scope3 (Jr E L O h0 rb x) 205000 (lab1 hE H hW hrb nbr) (fun c1 hc1 ih => lab2 hE H hW hrb nbr hc1 ih) (fun c2 hc2 ih => lab0 hE H hW hrb nbr hc2 ih) (fun c0 hc0 ih => ?_) (fun l n tm h hl => by
  match l, hl with
  | 0, h => omega
  | 1, h => omega
  | 2, h => omega
  | l + 3, _ => exact fun h => h.elim)
 simp only [push_cast, seval, hE.P, wpc_block]
 cases hc0
 refine wpc_label_cut (wpc_mono _ (kgoto_mono (by omega : 204900 ≤ 205000)) _ _ (ih 204900 _ _ ⟨x, ?_⟩))
 have kp := ((((Keep.refl h0).push (o := .cells [.int .i64 0, .int .i64 0, .string .empty, .slice none 0 0, .slice none 0 0] 25 true) hW).push (o := .cells [.int .i64 0, .int .i64 0, .string .empty, .slice none 0 0, .slice none 0 0] 25 true) (hW.push _)).push (o := .cells [.int .i64 0, .slice none 0 0, .slice none 0 0] 127 true) ((hW.push _).push _))
 refine ⟨2048, [], noMem, Nat.le_refl _, ⟨fun t ht => (by cases ht), hx, by simp⟩, by simp, fun r hh => hh, ?_, [.int .i64 0, .int .i64 0, .string .empty, .slice none 0 0, .slice none 0 0], ?_, rfl, by simp only [push_cast, seval, hE.P, wpc_block]⟩
 ·refine ⟨hrb2.2, ((hW.push _).push _).push _, noMem_frz _ _, fun b c hb => (by cases hb), fun b o _ hb => kp.get _ _ hb, by simp, kp.get _ _ hr, ?_, ⟨.int .i64 0, .slice none 0 0, .slice none 0 0, ?_⟩, ⟨.slice none 0 0, [], [], by simp only [push_cast, seval, hE.P, wpc_block], .inl ⟨rfl, rfl, rfl⟩, ⟨rfl, rfl⟩, by simp [slB], fun b hb => (by simp [slB] at hb)⟩, by simp only [push_cast, seval, hE.P, wpc_block], by simp only [push_cast, seval, hE.P, wpc_block], by simp only [push_cast, seval, hE.P, wpc_block], by simp only [push_cast, seval, hE.P, wpc_block]⟩
  ·rw [get_push, if_neg (by simp; omega), get_push, if_neg (by simp), get_push, if_pos rfl]
  ·rw [get_push, if_pos (by simp)]
 ·rw [get_push, if_neg (by simp), get_push, if_pos (by simp)]
end Go.Proofs.YthfopcdammlmfaaGreatDoor.G
/- Reading a value, and what the law asks of it. -/
namespace Go.Proofs.YthfopcdammlmfaaGreatDoor.G
open Go.Tm
def ReadO (O : Om) (x : Nat) (V : Vl) (e : Int) : Prop := ∃ V0 e0, Rd O 2048 [] (.obj x) (V0, e0) ∧ ((e0 ≠ 0 ∧ V = zeroV ∧ e = e0) ∨ (e0 = 0 ∧ goodV V0 ≠ 0 ∧ V = zeroV ∧ e = 4) ∨ (e0 = 0 ∧ goodV V0 = 0 ∧ V = V0 ∧ e = 0))
variable {E : Env} (hE : EOk E)
include hE
theorem read_at {h : Heap} {L : HL} {W nS : Nat} {R : List Nat} {O : Om} (H : IsO E h L W nS R O) (hW : WF E h) {x : Nat} (hx : x < 18446744073709551616) :
 CallsTo E 49 [.pointer (some ⟨L.ph, 0, none⟩), .int .u64 x] h fun v h' => ∃ V e c G, v = .tuple #[.agg c.toArray, .int .i64 e] ∧ ReadO O x V e ∧ V.sz ≤ 2049 ∧ Rep E G V c ∧ Frz E G h' ∧ (∀ b c, G b = some c → h.next ≤ b) ∧ Keep h h' ∧ WF E h' := by
 have hlt := H.lt hW
 refine en hE Tryz.func49 rfl rfl Tryz.ntmps49 rfl (by decide +kernel) (rs := [.cell 4 25, .tmp 5]) rfl ?_
 simp only [push_cast, seval, hE.P, zz, hW.nb, hW.nb0]
 have w1 := hW.push (.cells [.int .i64 0, .int .i64 0, .string .empty, .slice none 0 0, .slice none 0 0] 25 true)
 have k1 := (Keep.refl h).push (o := .cells [.int .i64 0, .int .i64 0, .string .empty, .slice none 0 0, .slice none 0 0] 25 true) hW
 have w2 := w1.push (.cells [.pointer (some ⟨L.ph, 0, none⟩), .int .i64 2048] 125 true)
 have k2 := k1.push (o := .cells [.pointer (some ⟨L.ph, 0, none⟩), .int .i64 2048] 125 true) w1
 have hg0 : ((h.push (.cells [.int .i64 0, .int .i64 0, .string .empty, .slice none 0 0, .slice none 0 0] 25 true)).push (.cells [.pointer (some ⟨L.ph, 0, none⟩), .int .i64 2048] 125 true)).get h.next = some (.cells [.int .i64 0, .int .i64 0, .string .empty, .slice none 0 0, .slice none 0 0] 25 true) := by rw [get_push, if_neg (by simp), get_push, if_pos rfl]
 refine (readv_at hE (H.keep k2) w2 (rb := h.next + 1) (fun b hb => by have := (hlt b hb).2; omega) (by rw [get_push, if_pos (by simp)]) hx).mono ?_
 rintro v h1 ⟨V0, e0, c, G, rfl, hrd, hV, hfz, hdom, hlo, hnx, hw⟩
 have hg1 := hlo h.next _ (by omega) hg0
 have hsz := hrd.size
 simp only [wS, wP, List.map_nil, List.sum_nil] at hsz
 have kk : Keep h h1 := ⟨fun b o hb => by
  have := (hW.live _ _ hb).2
  exact hlo b o (by omega) (k2.get _ _ hb), by simp at hnx; omega⟩
 obtain ⟨sl, sf, cl, cf, rfl, hsl, hsf, _⟩ := hV.cells
 obtain ⟨va, vk, rfl, _, _⟩ := hsl.slice
 obtain ⟨wa, wk, rfl, _, _⟩ := hsf.slice
 have nb0 : (h.next < E.base) = False := by have := hW.base; simp; omega
 have nbm : (h1.next < E.base) = False := by have := hw.base; simp; omega
 have hne : ¬ h1.next = h.next := by simp at hnx; omega
 have w3 := hw.push (.cells [.int .i64 V0.k, .int .i64 V0.n, .string V0.s, .slice va V0.l.length vk, .slice wa V0.f.length wk] 25 true)
 have k3 := (Keep.refl h1).push (o := .cells [.int .i64 V0.k, .int .i64 V0.n, .string V0.s, .slice va V0.l.length vk, .slice wa V0.f.length wk] 25 true) hw
 have hg3 := k3.get _ _ hg1
 have hv3 : (h1.push (.cells [.int .i64 V0.k, .int .i64 V0.n, .string V0.s, .slice va V0.l.length vk, .slice wa V0.f.length wk] 25 true)).get h1.next = some (.cells [.int .i64 V0.k, .int .i64 V0.n, .string V0.s, .slice va V0.l.length vk, .slice wa V0.f.length wk] 25 true) := by rw [get_push, if_pos rfl]
 simp only [push_cast, seval, hE.P, zz, nbm]
 obtain ⟨h3, hh3⟩ : ∃ h3, h3 = h1.push (.cells [.int .i64 V0.k, .int .i64 V0.n, .string V0.s, .slice va V0.l.length vk, .slice wa V0.f.length wk] 25 true) := ⟨_, rfl⟩
 rw [← hh3] at w3 k3 hg3 hv3
 rw [← hh3]
 have kz : ∀ o, Keep h (h3.put h.next o) := fun o => (kk.trans k3).putNew hW (Nat.le_refl _)
 have fz : ∀ (h4 : Heap) G' o, Frz E G' h4 → (∀ b c, G' b = some c → h.next + 1 ≤ b) → Frz E G' (h4.put h.next o) := fun h4 G' o f d => f.but fun b o hb hg => by
  obtain ⟨cb, hcb⟩ := Option.isSome_iff_exists.1 hb
  have := d b cb hcb
  rw [get_put, if_neg (by omega)]; exact hg
 by_cases he : e0 = 0
 ·have he2 : (e0 != 0) = false := by simp [he]
  simp only [push_cast, seval, hE.P, zz, he2, hv3, nbm]
  refine (good_at hE (V := V0) (by omega) w3 (hfz.keep k3) hV).mono ?_
  rintro v h4 ⟨rfl, k4, w4⟩
  have hg4 := k4.get _ _ hg3
  have hv4 := k4.get _ _ hv3
  by_cases hgd : goodV V0 = 0
  ·have hgd2 : (goodV V0 != 0) = false := by simp [hgd]
   simp only [push_cast, seval, hE.P, zz, hgd2, hv4, nbm]
   refine (copy_at hE V0.sz V0 (Nat.le_refl _) w4 ((hfz.keep k3).keep k4) hV).mono ?_
   rintro v h5 ⟨G5, c5, rfl, hV5, x5⟩
   have hV5' := hV5
   obtain ⟨sl5, sf5, cl5, cf5, rfl, hsl5, hsf5, _⟩ := hV5.cells
   obtain ⟨va5, vk5, rfl, _, _⟩ := hsl5.slice
   obtain ⟨wa5, wk5, rfl, _, _⟩ := hsf5.slice
   have hg5 := x5.keep.get _ _ hg4
   simp only [push_cast, seval, hE.P, wpc_label, wpc_block, hg5, nb0, awrite]
   have hd5 : ∀ b c, G5 b = some c → h.next + 1 ≤ b := fun b c hb => by
    rcases x5.new b c hb with h6 | h6
    ·have := hdom b c h6; simp at this; omega
    ·have := k3.next; have := k4.next; simp at hnx; omega
   exact ⟨V0, 0, _, G5, rfl, ⟨V0, e0, hrd, .inr (.inr ⟨he, hgd, rfl, rfl⟩)⟩, by omega, hV5', fz _ _ _ x5.frz hd5, fun b c hb => by have := hd5 b c hb; omega, ((((kk.trans k3).trans k4).trans x5.keep)).putNew hW (Nat.le_refl _), x5.wf.put hg5⟩
  ·have hgd2 : (goodV V0 != 0) = true := by simp [hgd]
   simp only [push_cast, seval, hE.P, wpc_label, wpc_block, hgd2, hg4, nb0, awrite]
   exact ⟨zeroV, 4, _, noMem, rfl, ⟨V0, e0, hrd, .inr (.inl ⟨he, hgd, rfl, rfl⟩)⟩, by rw [zeroV_sz]; omega, rep_zero, noMem_frz _ _, fun b c hb => (by cases hb), (((kk.trans k3).trans k4)).putNew hW (Nat.le_refl _), w4.put hg4⟩
 ·have he2 : (e0 != 0) = true := by simp [he]
  simp only [push_cast, seval, hE.P, wpc_label, wpc_block, he2, hg3, nb0, awrite]
  exact ⟨zeroV, e0, _, noMem, rfl, ⟨V0, e0, hrd, .inl ⟨he, rfl, rfl⟩⟩, by rw [zeroV_sz]; omega, rep_zero, noMem_frz _ _, fun b c hb => (by cases hb), kz _, w3.put hg3⟩
end Go.Proofs.YthfopcdammlmfaaGreatDoor.G
/- What is built is read; the first sentence of the law. -/
namespace Go.Proofs.YthfopcdammlmfaaGreatDoor.G
open Go.Tm
theorem head_pos (V : Vl) : 1 ≤ headV V := by
 have d1 := digitsN_pos (turnedN V.n)
 have d2 := digitsN_pos V.s.size
 have d3 := digitsN_pos V.l.length
 have d4 := digitsN_pos V.f.length
 have d5 : 0 ≤ (V.f.map fun x => digitsN x.1.size + (x.1.size : Int)).sum := sum_nn fun x hx => by
  obtain ⟨y, _, rfl⟩ := List.mem_map.1 hx
  have := digitsN_pos y.1.size
  omega
 unfold headV
 repeat' split
 all_goals omega
theorem sz_le_size : ∀ (n : Nat) (V : Vl), V.sz ≤ n → allV formedV V = true → (V.sz : Int) ≤ sizeV V := by
 intro n
 induction n with
 | zero => intro V hn; have := sz_eq V; omega
 | succ n ih =>
   intro V hn hF
   rw [allV_eq, Bool.and_eq_true, List.all_eq_true] at hF
   obtain ⟨fl, ff, k1, k6⟩ := formed_l hF.1
   have hs := szl_sum V
   have hh := head_pos V
   rw [sizeV_eq]
   by_cases e5 : V.k = 5
   ·have hp : V.parts = V.l := by simp [Vl.parts, e5]
    rw [ff (by omega)] at hs
    rw [hp]
    have : (V.l.map fun x => (x.sz : Int)).sum ≤ (V.l.map sizeV).sum := sum_mono fun x hx => ih x (by have := l_sz hx; omega) (hF.2 x (by rw [hp]; exact hx))
    simp at hs; omega
   ·rw [fl e5] at hs
    by_cases e6 : V.k = 6
    ·have hp : V.parts = V.f.map (·.2) := by simp [Vl.parts, e6]
     rw [hp, List.map_map]
     have : (V.f.map fun x => (x.2.sz : Int)).sum ≤ (V.f.map (sizeV ∘ fun x => x.2)).sum := sum_mono fun x hx => ih x.2 (by have := f_sz hx; omega) (hF.2 x.2 (by rw [hp]; exact List.mem_map.2 ⟨x, hx, rfl⟩))
     simp at hs; omega
    ·have hp : V.parts = [] := by simp [Vl.parts, e5, e6]
     rw [ff e6] at hs
     rw [hp]
     simp at hs ⊢; omega
theorem Rep.nums {E : Env} {G : Mem} : ∀ (n : Nat) (V : Vl), V.sz ≤ n → ∀ {c : List Value}, Rep E G V c → allV numsV V = true := by
 intro n
 induction n with
 | zero => intro V hn; have := sz_eq V; omega
 | succ n ih =>
   intro V hn c h
   rw [allV_eq, Bool.and_eq_true, List.all_eq_true]
   obtain ⟨_, _, _, _, _, _, _, _, _, _, _, hb⟩ := h.cells
   refine ⟨by simp [numsV]; omega, fun x hx => ?_⟩
   obtain ⟨c', hc'⟩ := h.part hx
   exact ih x (by have := parts_sz hx; omega) hc'
theorem built_rd {O : Om} {f : Nat → Nat} {V : Vl} {b : Nat} (hT : There O f b (obg f b V)) (hg : goodV V = 0) (hn : allV numsV V = true) : Rd O 2048 [] (.obj (f (b + (obg f b V).length - 1))) (V, 0) := by
 obtain ⟨g1, g2, g3, g4, g5⟩ := good_parts hg
 have hz := sz_le_size V.sz V (Nat.le_refl _) g1
 exact rd_val V.sz V (Nat.le_refl _) g1 g3 hn b 2048 [] (V, 0) hT (by omega) (by simp; omega) (.fin rfl)
theorem ReadO.of {O : Om} {x : Nat} {V V' : Vl} {e : Int} (h : Rd O 2048 [] (.obj x) (V, 0)) (hg : goodV V = 0) (H : ReadO O x V' e) : V' = V ∧ e = 0 := by
 obtain ⟨V0, e0, h0, h1⟩ := H
 have := h.det h0
 injection this with h2 h3
 subst h2; subst h3
 rcases h1 with ⟨a, _⟩ | ⟨_, a, _⟩ | ⟨_, _, a, b⟩
 ·exact absurd rfl a
 ·exact absurd hg a
 ·exact ⟨a, b⟩
variable {E : Env} (hE : EOk E)
include hE
theorem sameL_at {V : Vl} {G G2 : Mem} {h : Heap} (hW : WF E h) (hG : Frz E G h) (hG2 : Frz E G2 h) {c d : List Value} (hV : Rep E G V c) (hV2 : Rep E G2 V d) :
 CallsTo E 50 [.agg c.toArray, .agg d.toArray] h fun v h' => v = .bool true ∧ Keep h h' ∧ WF E h' := by
 have hV0 := hV
 have hV20 := hV2
 obtain ⟨sl, sf, cl, cf, rfl, hsl, hsf, _⟩ := hV.cells
 obtain ⟨va, vk, rfl, _, _⟩ := hsl.slice
 obtain ⟨wa, wk, rfl, _, _⟩ := hsf.slice
 obtain ⟨sl', sf', cl', cf', rfl, hsl', hsf', _⟩ := hV2.cells
 obtain ⟨va', vk', rfl, _, _⟩ := hsl'.slice
 obtain ⟨wa', wk', rfl, _, _⟩ := hsf'.slice
 have nb0 : (h.next < E.base) = False := by have := hW.base; simp; omega
 refine en hE Tryz.func50 rfl rfl Tryz.ntmps50 rfl (by decide +kernel) (rs := [.tmp 4]) rfl ?_
 simp only [push_cast, seval, hE.P, zz, hW.nb, hW.nb0]
 have k1 := ((Keep.refl h).push (o := .cells [.int .i64 V.k, .int .i64 V.n, .string V.s, .slice va V.l.length vk, .slice wa V.f.length wk] 25 true) hW).push (o := .cells [.int .i64 V.k, .int .i64 V.n, .string V.s, .slice va' V.l.length vk', .slice wa' V.f.length wk'] 25 true) (hW.push _)
 have w1 := (hW.push (.cells [.int .i64 V.k, .int .i64 V.n, .string V.s, .slice va V.l.length vk, .slice wa V.f.length wk] 25 true)).push (.cells [.int .i64 V.k, .int .i64 V.n, .string V.s, .slice va' V.l.length vk', .slice wa' V.f.length wk'] 25 true)
 refine (same_at hE V.sz V (Nat.le_refl _) w1 (hG.keep k1) (hG2.keep k1) hV0 hV20).mono ?_
 rintro v h2 ⟨rfl, k2, w2⟩
 simp only [push_cast, seval, hE.P, zz]
 exact ⟨k1.trans k2, w2⟩
theorem reads_at {h : Heap} {L : HL} {W nS : Nat} {R : List Nat} {O : Om} (H : IsO E h L W nS R O) (hW : WF E h) {x : Nat} (hx : x < 18446744073709551616) {V : Vl} (hr : Rd O 2048 [] (.obj x) (V, 0)) (hg : goodV V = 0) {G : Mem} (hG : Frz E G h) {c : List Value} (hV : Rep E G V c) :
 CallsTo E 17 [.pointer (some ⟨L.ph, 0, none⟩), .int .u64 x, .agg c.toArray] h fun v h' => v = .bool true ∧ Keep h h' ∧ WF E h' := by
 have hV0 := hV
 obtain ⟨sl, sf, cl, cf, rfl, hsl, hsf, _⟩ := hV.cells
 obtain ⟨va, vk, rfl, _, _⟩ := hsl.slice
 obtain ⟨wa, wk, rfl, _, _⟩ := hsf.slice
 refine en hE Tryz.func17 rfl rfl Tryz.ntmps17 rfl (by decide +kernel) (rs := [.tmp 6]) rfl ?_
 simp only [push_cast, seval, hE.P, zz, hW.nb, hW.nb0]
 have w1 := hW.push (.cells [.int .i64 V.k, .int .i64 V.n, .string V.s, .slice va V.l.length vk, .slice wa V.f.length wk] 25 true)
 have k1 := (Keep.refl h).push (o := .cells [.int .i64 V.k, .int .i64 V.n, .string V.s, .slice va V.l.length vk, .slice wa V.f.length wk] 25 true) hW
 have hg1 : (h.push (.cells [.int .i64 V.k, .int .i64 V.n, .string V.s, .slice va V.l.length vk, .slice wa V.f.length wk] 25 true)).get h.next = some (.cells [.int .i64 V.k, .int .i64 V.n, .string V.s, .slice va V.l.length vk, .slice wa V.f.length wk] 25 true) := by rw [get_push, if_pos rfl]
 refine (read_at hE (H.keep k1) w1 hx).mono ?_
 rintro v h2 ⟨V', e, c', G', rfl, hrd, hz, hV', hfz, hdom, k2, w2⟩
 obtain ⟨rfl, rfl⟩ := hrd.of hr hg
 have hV2 := hV'
 obtain ⟨sl', sf', cl', cf', rfl, hsl', hsf', _⟩ := hV'.cells
 obtain ⟨va', vk', rfl, _, _⟩ := hsl'.slice
 obtain ⟨wa', wk', rfl, _, _⟩ := hsf'.slice
 have nb0 : (h.next < E.base) = False := by have := hW.base; simp; omega
 have nbm : (h2.next < E.base) = False := by have := w2.base; simp; omega
 have hg2 := k2.get _ _ hg1
 have hne : ¬ h2.next = h.next := by have := k2.next; simp at this; omega
 have w3 := w2.push (.cells [.int .i64 V'.k, .int .i64 V'.n, .string V'.s, .slice va' V'.l.length vk', .slice wa' V'.f.length wk'] 25 true)
 have k3 := (Keep.refl h2).push (o := .cells [.int .i64 V'.k, .int .i64 V'.n, .string V'.s, .slice va' V'.l.length vk', .slice wa' V'.f.length wk'] 25 true) w2
 simp only [push_cast, seval, hE.P, zz, hg2, nb0, nbm, hne]
 refine (sameL_at hE w3 (hfz.keep k3) (((hG.keep k1).keep k2).keep k3) hV2 hV0).mono ?_
 rintro v h4 ⟨rfl, k4, w4⟩
 simp only [push_cast, seval, hE.P, zz]
 exact ⟨((k1.trans k2).trans k3).trans k4, w4⟩
end Go.Proofs.YthfopcdammlmfaaGreatDoor.G
namespace Go.Proofs.YthfopcdammlmfaaGreatDoor.G
open Go.Tm
variable {E : Env} (hE : EOk E)
include hE
theorem compD_at {h : Heap} {L : HL} {Wd nS : Nat} {R : List Nat} {O : Om} (H : IsO E h L Wd nS R O) (hW : WF E h) {x y : Nat} (hx : x < 18446744073709551616) (hy : y < 18446744073709551616) {V W : Vl} (hr : Rd O 2048 [] (.obj x) (V, 0)) (hr2 : Rd O 2048 [] (.obj y) (W, 0)) (hg : goodV V = 0) (hg2 : goodV W = 0) :
 CallsTo E 26 [.pointer (some ⟨L.ph, 0, none⟩), .int .u64 x, .int .u64 y] h fun v h' => v = .tuple #[.int .i64 (cmpV V W), .int .i64 0] ∧ Keep h h' ∧ WF E h' := by
 refine en hE Tryz.func26 rfl rfl Tryz.ntmps26 rfl (by decide +kernel) (rs := [.tmp 6, .tmp 7]) rfl ?_
 simp only [push_cast, seval, hE.P, zz]
 refine (read_at hE H hW hx).mono ?_
 rintro v h1 ⟨V', e, c, G, rfl, hro, hsz, hrep, hfr, hnew, k1, w1⟩
 obtain ⟨rfl, rfl⟩ := ReadO.of hr hg hro
 have hrepC := hrep
 obtain ⟨sl, sf, cl, cf, rfl, hsl, hsf, _⟩ := hrep.cells
 obtain ⟨a2, cap2, rfl, _, _⟩ := hsl.slice
 obtain ⟨a3, cap3, rfl, _, _⟩ := hsf.slice
 have k2' := (Keep.refl h1).push (o := .cells [.int .i64 V'.k, .int .i64 V'.n, .string V'.s, .slice a2 V'.l.length cap2, .slice a3 V'.f.length cap3] 25 true) w1
 have w2 := w1.push (.cells [.int .i64 V'.k, .int .i64 V'.n, .string V'.s, .slice a2 V'.l.length cap2, .slice a3 V'.f.length cap3] 25 true)
 have g2 : (h1.push (.cells [.int .i64 V'.k, .int .i64 V'.n, .string V'.s, .slice a2 V'.l.length cap2, .slice a3 V'.f.length cap3] 25 true)).get h1.next = some (.cells [.int .i64 V'.k, .int .i64 V'.n, .string V'.s, .slice a2 V'.l.length cap2, .slice a3 V'.f.length cap3] 25 true) := by rw [get_push, if_pos rfl]
 have k2 := k1.trans k2'
 simp only [push_cast, seval, hE.P, zz]
 refine (read_at hE (H.keep k2) w2 hy).mono ?_
 rintro v h3 ⟨W', e, c, G', rfl, hro2, hsz2, hrep2, hfr2, hnew2, k3, w3⟩
 obtain ⟨rfl, rfl⟩ := ReadO.of hr2 hg2 hro2
 have hrepD := hrep2
 obtain ⟨sl2, sf2, cl2, cf2, rfl, hsl2, hsf2, _⟩ := hrep2.cells
 obtain ⟨d2, dap2, rfl, _, _⟩ := hsl2.slice
 obtain ⟨d3, dap3, rfl, _, _⟩ := hsf2.slice
 have g3 := k3.get _ _ g2
 have hne : ¬ h3.next = h1.next := by have := (w3.live _ _ g3).2; omega
 have k4 := (Keep.refl h3).push (o := .cells [.int .i64 W'.k, .int .i64 W'.n, .string W'.s, .slice d2 W'.l.length dap2, .slice d3 W'.f.length dap3] 25 true) w3
 have w4 := w3.push (.cells [.int .i64 W'.k, .int .i64 W'.n, .string W'.s, .slice d2 W'.l.length dap2, .slice d3 W'.f.length dap3] 25 true)
 simp only [push_cast, seval, hE.P, zz, g3, hne, w1.nb0, w3.nb0]
 refine (comp_at hE (V := V') (W := W') (by omega) (by omega) hg hg2 w4 (((hfr.keep k2').keep k3).keep k4) (hfr2.keep k4) hrepC hrepD).mono ?_
 rintro v h5 ⟨rfl, k5, w5⟩
 simp only [push_cast, seval, hE.P, zz]
 exact ⟨((k2.trans k3).trans k4).trans k5, w5⟩
end Go.Proofs.YthfopcdammlmfaaGreatDoor.G
