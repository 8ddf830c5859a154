/- The reader: an object. -/
/- Merged by a program of ours: N9 N10. -/
import Derived.Test.YthfopcdammlmfaaGreatDoorN2
set_option maxRecDepth 10000
set_option linter.all false
set_option linter.unusedSimpArgs false
set_option linter.unusedVariables false
/- The reader: what is done. -/
namespace Go.Proofs.YthfopcdammlmfaaGreatDoor.G
open Go.Tm
variable {E : Env} (hE : EOk E)
include hE
theorem lab2 {h0 : Heap} {L : HL} {W nS : Nat} {R : List Nat} {O : Om} (H : IsO E h0 L W nS R O) (hW : WF E h0) {rb : Nat} (hrb : ∀ b, b ∈ L.blocks → b < rb) (nbr : (rb < E.base) = False) {x : Nat} {c1 : Code} (hc1 : findLabel readB 1 = some c1) (ih : LabOk E L O h0 rb x 1 c1) : ∃ c, findLabel readB 2 = some c ∧ LabOk E L O h0 rb x 2 c := by
 refine ⟨_, rfl, ?_⟩
 intro n tm h HJ
 obtain ⟨v, HJ⟩ := HJ
 obtain ⟨left, st, G, hl, hok, hn, hrd, M, vc, hv, hvl, hV⟩ := HJ
 have hrb2 := M.rbl
 simp only at hn hV
 obtain ⟨sl, sf, cl, cf, rfl, hsl, hsf, _⟩ := hV.cells
 obtain ⟨va, vk, rfl, _, _⟩ := hsl.slice
 obtain ⟨wa, wk, rfl, _, _⟩ := hsf.slice
 have nb0 : (h0.next < E.base) = False := by have := hW.base; simp; omega
 have nb1 : (h0.next + 1 < E.base) = False := by have := hW.base; simp; omega
 cases st with
 | nil =>
   obtain ⟨sv, cs, bs, f6, hown, _⟩ := M.stk
   obtain ⟨sa, sk, rfl, _⟩ := Own.slice hown
   have f7 := M.f7
   have f4 := M.f4
   have gr := M.res
   simp only [push_cast, seval, hE.P, wpc_block, f6, f7, f4, gr, hv, nb0, nb1, awrite]
   exact M.endo (hrd _ (.fin rfl)) hV
 | cons t s =>
   obtain ⟨hsk, hlen⟩ := hok
   have htk := hsk t (by simp)
   obtain ⟨sb, cap, rest, fx, c0, rv, lv, fv, lc, fc, bs, f6, m1, m2, hg, hc0, hrest, q1, q3, q4, q5, q6, hfs, hnd, hGn, hsb, nbs⟩ := M.top
   obtain ⟨k, hk⟩ : ∃ k, k = s.length := ⟨_, rfl⟩
   obtain ⟨k1, hk1⟩ : ∃ k1, k1 = k + 1 := ⟨_, rfl⟩
   rw [← hk, ← hk1] at f6 m1
   rw [← hk] at hc0
   have e1 : (k1 : Int) - 1 = k := by omega
   have e2 : IntKind.i64.wrap (k : Int) = k := wrN (by simp at hlen; omega)
   have e3 : ((k1 : Int) == 0) = false := by simp; omega
   have hq3 := q3
   have hq5 := q5
   obtain ⟨la, lk, rfl, _⟩ := Own.slice q3
   obtain ⟨fa, fk, rfl, _⟩ := Own.slice q5
   have rd : ∀ j m, j + m ≤ 8 → acells E h ⟨sb, k * 8 + j, none⟩ m = some (([.int .i64 t.tag, rv, .string t.name, .int .i64 t.tag, .int .i64 0, .string .empty, .slice la t.l.length lk, .slice fa t.f.length fk].drop j).take m) := fun j m hjm => stk_read nbs hg hc0 rfl hjm
   have r0 := rd 0 1 (by omega)
   rw [Nat.add_zero] at r0
   have r2 := rd 2 1 (by omega)
   have r6 := rd 6 1 (by omega)
   have r7 := rd 7 1 (by omega)
   simp only [push_cast, seval, hE.P, wpc_block, f6, e1, e2, e3]
   rw [ia187 rfl (by omega) (by omega), kpure_some]
   simp only [push_cast, seval, hE.P, wpc_block, f6, e1, e2, ↓r0]
   have hok2 : OkSt (t.add v :: s) .next := OkSt.step (O := O) H.okO (left := left) (left' := left) (p := .done v) rfl ⟨hsk, hlen⟩
   have hnn := htk.2.2.2.2
   simp only [Fm.n] at hnn
   refine kif_cutS (fun tm' h' => ∃ m, m < n ∧ JJ E L O h0 rb x .next m tm' h') ?_ ?_
   ·rintro tm h ⟨m, hm, hJ⟩
    have h1 := wpc_mono _ (kgoto_mono (by omega : m ≤ n)) _ _ (ih m tm h hJ)
    cases hc1
    exact h1
   ·refine kif_split (fun hb => ?_) (fun hb => ?_)
    ·have ht5 : t.tag = 5 := by have := eq_of_beq hb; omega
     simp only [push_cast, seval, hE.P, wpc_block]
     refine wdraw_sp [(4, 7), (5, 7)] 10 14 (by rw [hE.P]; decide +kernel) (by rw [hE.P]; decide +kernel) (by rw [hE.P]; decide +kernel) ?_
     have f7 := M.f7
     simp only [push_cast, seval, hE.P, wpc_block, f7, ↓r6, hv, nb1]
     rw [bs22 rfl, kalloc_some]
     simp only [push_cast, seval, hE.P, wpc_block, f7, ↓r6, hv, nb1]
     refine kwv_app1 (el22 hE.P) M.wf (lo := h0.next + 3) M.next hq3 rfl rfl (by omega) (by omega) ?_
     intro v' h1 hown1 hbut hblk hnx1 w1
     have hlc := q4.len
     obtain ⟨vb, vcap, h2, hv', hvc, haw, hown2, hk2, hn2, w2⟩ := Own.last (ys := [.int .i64 v.k, .int .i64 v.n, .string v.s, .slice va v.l.length vk, .slice wa v.f.length wk]) w1 hown1 (by rw [hlc]) rfl rfl
     subst hv'
     obtain ⟨d1, d2, d3, d4, d5, d6, d7⟩ := nd3 hnd
     have hvb : vb ∈ slB (.slice la t.l.length lk) ∨ h.next ≤ vb := hblk vb (by simp [slB])
     have hlive : ∀ b o, h.get b = some o → b < h.next := fun b o hb => (M.wf.live _ _ hb).2
     have hkeep : ∀ b o, h.get b = some o → b ∉ slB (.slice la t.l.length lk) → h2.get b = some o := fun b o hb hn => by
      refine hk2 b o (fun e => ?_) (hbut b o hb hn)
      subst e
      rcases hvb with h3 | h3
      ·exact hn h3
      ·have := hlive _ _ hb; omega
     have hsbn : sb ∉ slB (.slice la t.l.length lk) := fun hh => (d2 sb hh).2.1 rfl
     have hg2 := hkeep _ _ hg hsbn
     have hn1 : h0.next + 1 ∉ slB (.slice la t.l.length lk) := fun hh => by have := q3.lt M.wf _ hh; omega
     have hv2 := hkeep _ _ hv hn1
     have wr6 := stk_write (vs := [.slice (some ⟨vb, 0, none⟩) (t.l.length + 1) vcap]) (j := 6) hg2 hc0 rfl (by simp) rfl
     have hgp := ((Keep.refl h).push (o := .cells [.int .i64 0, .int .i64 0, .string .empty, .slice none 0 0, .slice none 0 0] 25 true) M.wf).get _ _ hg
     have r6p : acells E _ ⟨sb, k * 8 + 3 + 3, none⟩ 1 = some _ := stk_read (j := 6) (m := 1) nbs hgp hc0 rfl (by omega)
     have neE : ¬ h.next = h0.next + 1 := by have := M.next; omega
     have hvbsb : ¬ vb = sb := by
      intro e
      rcases hvb with h3 | h3
      ·exact (d2 vb h3).2.1 e
      ·have := hlive _ _ hg; omega
     simp only [push_cast, seval, hE.P, wpc_block, f7]
     rw [ia22 rfl (by omega) (by omega), kpure_some]
     simp only [push_cast, seval, hE.P, wpc_block, f7, ↓r6, ↓r6p, hv, nb1, haw, wr6, neE, spOk, ostep, plainStore, apartW, hvbsb]
     refine ⟨⟨?_, by simp⟩, ?_⟩
     ·have := r6p
      simp only [acells, get_push] at this
      exact congrArg (fun x : Option (List Value) => x.bind fun l => l[0]?) this
     ·refine ⟨n - 1, by omega, ?_⟩
      have hput : h2.put sb (.cells (c0 ++ .int .i64 t.tag :: rv :: .string t.name :: .int .i64 t.tag :: .int .i64 0 :: .string .empty :: .slice (some ⟨vb, 0, none⟩) (t.l.length + 1) vcap :: .slice fa t.f.length fk :: rest) 190 fx) = h2.put sb (.cells (c0 ++ ([.int .i64 t.tag, rv, .string t.name, .int .i64 t.tag, .int .i64 0, .string .empty, .slice (some ⟨vb, 0, none⟩) (t.l.length + 1) vcap, .slice fa t.f.length fk] ++ rest)) 190 fx) := rfl
      rw [hput]
      refine ⟨left, _, G, hl, hok2, by simp only [List.length_cons] at hn ⊢; omega, fun r hh => hrd r (.go (left' := left) (p' := .next) rfl hh), ?_, [.int .i64 v.k, .int .i64 v.n, .string v.s, .slice va v.l.length vk, .slice wa v.f.length wk], ?_, rfl, trivial⟩
      ·have hadd : t.add v = { t with l := t.l ++ [v] } := by unfold Fm.add; rw [if_pos ht5]
       rw [hadd]
       have hlv := q3.lt M.wf
       have hfv := q5.lt M.wf
       have hkp : ∀ o' b o, h.get b = some o → b ∉ slB (.slice la t.l.length lk) → b ≠ sb → (h2.put sb o').get b = some o := fun o' b o hb h1 h2 => by
        rw [get_put, if_neg (by omega)]; exact hkeep b o hb h1
       have hvbf : vb ∉ slB (.slice fa t.f.length fk) := fun hh => by
        rcases hvb with h3 | h3
        ·exact (d2 vb h3).1 hh
        ·have := hfv vb hh; omega
       refine M.setApp (t' := { t with l := t.l ++ [v] }) (by omega) m2 (by omega) (by omega) q1 hfs (fun b hb => (List.mem_append.1 hb).elim (fun h1 => (hlv b h1).1) (fun h1 => (hfv b h1).1)) hnd hGn hsb (hlive _ _ hg) (fun b o hb h1 _ h2 => hkp _ b o hb h1 h2) (by rw [get_put, if_pos rfl]) (w2.put hg2) (by rw [next_put]; omega)
        (lc' := lc ++ [.int .i64 v.k, .int .i64 v.n, .string v.s, .slice va v.l.length vk, .slice wa v.f.length wk]) (fc' := fc) ?_ (RepLs.app q4 (RepLs.one hV)) ?_ q6 ?_ ?_ ?_ (by simp only [push_cast, seval, hE.P, wpc_block, M.f0]) (by simp only [push_cast, seval, hE.P, wpc_block, M.f4]) (by simp only [push_cast, seval, hE.P, wpc_block, M.f7]) (by simp only [push_cast, seval, hE.P, wpc_block, M.f8])
       ·have hlen1 : (t.l ++ [v]).length = t.l.length + 1 := by simp
        rw [hlen1]
        exact hown2.but fun b o hb hgb => by
         rw [get_put, if_neg (by simp only [slB, List.mem_singleton] at hb; omega)]; exact hgb
       ·exact hq5.but fun b o hb hgb => hkp _ b o hgb (fun hh => (d3 b hb).1 hh) (d3 b hb).2.1
       ·intro b hb
        rcases List.mem_append.1 hb with h1 | h1
        ·rcases hblk b h1 with h3 | h3
         ·left; rw [List.mem_append]; exact .inl h3
         ·exact .inr h3
        ·left; rw [List.mem_append]; exact .inr h1
       ·refine List.nodup_append.2 ⟨by simp [slB], d6, fun a ha b hb e => ?_⟩
        simp only [slB, List.mem_singleton] at ha
        subst ha; subst e
        exact hvbf hb
       ·rw [← hk, ← hk1]
        simp only [push_cast, seval, hE.P, wpc_block, f6]
      ·rw [get_put, if_neg (by omega)]; exact hv2
    ·have ht5 : t.tag ≠ 5 := by intro e; rw [e] at hb; simp at hb
     simp only [push_cast, seval, hE.P, wpc_block]
     refine wdraw_sp [(4, 12), (8, 12), (9, 12)] 15 19 (by rw [hE.P]; decide +kernel) (by rw [hE.P]; decide +kernel) (by rw [hE.P]; decide +kernel) ?_
     have f7 := M.f7
     simp only [push_cast, seval, hE.P, wpc_block, f7, ↓r7, ↓r2, hv, nb1]
     rw [bs23 rfl, kalloc_some]
     simp only [push_cast, seval, hE.P, wpc_block, f7, ↓r7, ↓r2, hv, nb1]
     refine kwv_app1 (el23 hE.P) M.wf (lo := h0.next + 3) M.next hq5 rfl rfl (by omega) (by omega) ?_
     intro v' h1 hown1 hbut hblk hnx1 w1
     have hlc := q6.len
     obtain ⟨vb, vcap, h2, hv', hvc, haw, hown2, hk2, hn2, w2⟩ := Own.last (ys := [.string t.name, .int .i64 v.k, .int .i64 v.n, .string v.s, .slice va v.l.length vk, .slice wa v.f.length wk]) w1 hown1 (by rw [hlc]) rfl rfl
     subst hv'
     obtain ⟨d1, d2, d3, d4, d5, d6, d7⟩ := nd3 hnd
     have hvb : vb ∈ slB (.slice fa t.f.length fk) ∨ h.next ≤ vb := hblk vb (by simp [slB])
     have hlive : ∀ b o, h.get b = some o → b < h.next := fun b o hb => (M.wf.live _ _ hb).2
     have hkeep : ∀ b o, h.get b = some o → b ∉ slB (.slice fa t.f.length fk) → h2.get b = some o := fun b o hb hn => by
      refine hk2 b o (fun e => ?_) (hbut b o hb hn)
      subst e
      rcases hvb with h3 | h3
      ·exact hn h3
      ·have := hlive _ _ hb; omega
     have hsbn : sb ∉ slB (.slice fa t.f.length fk) := fun hh => (d3 sb hh).2.1 rfl
     have hg2 := hkeep _ _ hg hsbn
     have hn1 : h0.next + 1 ∉ slB (.slice fa t.f.length fk) := fun hh => by have := q5.lt M.wf _ hh; omega
     have hv2 := hkeep _ _ hv hn1
     have wr6 := stk_write (vs := [.slice (some ⟨vb, 0, none⟩) (t.f.length + 1) vcap]) (j := 7) hg2 hc0 rfl (by simp) rfl
     have hgp := ((Keep.refl h).push (o := .cells [.string .empty, .int .i64 0, .int .i64 0, .string .empty, .slice none 0 0, .slice none 0 0] 91 true) M.wf).get _ _ hg
     have r7p : acells E _ ⟨sb, k * 8 + 3 + 4, none⟩ 1 = some _ := stk_read (j := 7) (m := 1) nbs hgp hc0 rfl (by omega)
     have r2p : acells E _ ⟨sb, k * 8 + 2, none⟩ 1 = some _ := stk_read (j := 2) (m := 1) nbs hgp hc0 rfl (by omega)
     have neE : ¬ h.next = h0.next + 1 := by have := M.next; omega
     have hvbsb : ¬ vb = sb := by
      intro e
      rcases hvb with h3 | h3
      ·exact (d3 vb h3).2.1 e
      ·have := hlive _ _ hg; omega
     simp only [push_cast, seval, hE.P, wpc_block, f7]
     rw [ia23 rfl (by omega) (by omega), kpure_some]
     simp only [push_cast, seval, hE.P, wpc_block, f7, ↓r7, ↓r7p, ↓r2, ↓r2p, hv, nb1, haw, wr6, neE, spOk, ostep, plainStore, apartW, hvbsb]
     refine ⟨⟨⟨?_, ?_⟩, by simp⟩, ?_⟩
     ·have := r7p
      simp only [acells, get_push] at this
      exact congrArg (fun x : Option (List Value) => x.bind fun l => l[0]?) this
     ·have := r2p
      simp only [acells, get_push] at this
      exact congrArg (fun x : Option (List Value) => x.bind fun l => l[0]?) this
     ·refine ⟨n - 1, by omega, ?_⟩
      have hput : h2.put sb (.cells (c0 ++ .int .i64 t.tag :: rv :: .string t.name :: .int .i64 t.tag :: .int .i64 0 :: .string .empty :: .slice la t.l.length lk :: .slice (some ⟨vb, 0, none⟩) (t.f.length + 1) vcap :: rest) 190 fx) = h2.put sb (.cells (c0 ++ ([.int .i64 t.tag, rv, .string t.name, .int .i64 t.tag, .int .i64 0, .string .empty, .slice la t.l.length lk, .slice (some ⟨vb, 0, none⟩) (t.f.length + 1) vcap] ++ rest)) 190 fx) := rfl
      rw [hput]
      refine ⟨left, _, G, hl, hok2, by simp only [List.length_cons] at hn ⊢; omega, fun r hh => hrd r (.go (left' := left) (p' := .next) rfl hh), ?_, [.int .i64 v.k, .int .i64 v.n, .string v.s, .slice va v.l.length vk, .slice wa v.f.length wk], ?_, rfl, trivial⟩
      ·have hadd : t.add v = { t with f := t.f ++ [(t.name, v)] } := by unfold Fm.add; rw [if_neg ht5]
       rw [hadd]
       have hlv := q3.lt M.wf
       have hfv := q5.lt M.wf
       have hkp : ∀ o' b o, h.get b = some o → b ∉ slB (.slice fa t.f.length fk) → b ≠ sb → (h2.put sb o').get b = some o := fun o' b o hb h1 h2 => by
        rw [get_put, if_neg (by omega)]; exact hkeep b o hb h1
       have hvbf : vb ∉ slB (.slice la t.l.length lk) := fun hh => by
        rcases hvb with h3 | h3
        ·exact (d2 vb hh).1 h3
        ·have := hlv vb hh; omega
       refine M.setApp (t' := { t with f := t.f ++ [(t.name, v)] }) (by omega) m2 (by omega) (by omega) q1 hfs (fun b hb => (List.mem_append.1 hb).elim (fun h1 => (hlv b h1).1) (fun h1 => (hfv b h1).1)) hnd hGn hsb (hlive _ _ hg) (fun b o hb _ h1 h2 => hkp _ b o hb h1 h2) (by rw [get_put, if_pos rfl]) (w2.put hg2) (by rw [next_put]; omega)
        (fc' := fc ++ [.string t.name, .int .i64 v.k, .int .i64 v.n, .string v.s, .slice va v.l.length vk, .slice wa v.f.length wk]) (lc' := lc) ?_ q4 ?_ (RepFs.app q6 (RepFs.one (x := (t.name, v)) hV (by have := htk.2.2.2.1; simp only; omega))) ?_ ?_ ?_ (by simp only [push_cast, seval, hE.P, wpc_block, M.f0]) (by simp only [push_cast, seval, hE.P, wpc_block, M.f4]) (by simp only [push_cast, seval, hE.P, wpc_block, M.f7]) (by simp only [push_cast, seval, hE.P, wpc_block, M.f8])
       ·exact hq3.but fun b o hb hgb => hkp _ b o hgb (d2 b hb).1 (d2 b hb).2.1
       ·have hlen1 : (t.f ++ [(t.name, v)]).length = t.f.length + 1 := by simp
        rw [hlen1]
        exact hown2.but fun b o hb hgb => by
         rw [get_put, if_neg (by simp only [slB, List.mem_singleton] at hb; omega)]; exact hgb
       ·intro b hb
        rcases List.mem_append.1 hb with h1 | h1
        ·left; rw [List.mem_append]; exact .inl h1
        ·rcases hblk b h1 with h3 | h3
         ·left; rw [List.mem_append]; exact .inr h3
         ·exact .inr h3
       ·refine List.nodup_append.2 ⟨d5, by simp [slB], fun a ha b hb e => ?_⟩
        simp only [slB, List.mem_singleton] at hb
        subst hb; subst e
        exact hvbf ha
       ·rw [← hk, ← hk1]
        simp only [push_cast, seval, hE.P, wpc_block, f6]
      ·rw [get_put, if_neg (by omega)]; exact hv2
end Go.Proofs.YthfopcdammlmfaaGreatDoor.G
namespace Go.Proofs.YthfopcdammlmfaaGreatDoor.G
open Go.Tm
theorem plain_rep {E : Env} {o : Ob} (o1 : o.tag < 256) (o3 : o.ws.length < 8192) (G : Mem) : Rep E G (plainO o).1 [.int .i64 (plainO o).1.k, .int .i64 (plainO o).1.n, .string (plainO o).1.s, .slice none 0 0, .slice none 0 0] := by
 have key : ∀ (k n : Int) (s : ByteArray), -9223372036854775808 ≤ k → k ≤ 9223372036854775807 → -9223372036854775808 ≤ n → n ≤ 9223372036854775807 → s.size ≤ 140737488355328 → Rep E G (.mk k n s [] []) [.int .i64 k, .int .i64 n, .string s, .slice none 0 0, .slice none 0 0] := by
  intro k n s h1 h2 h3 h4 h5
  unfold Rep
  refine ⟨_, _, [], [], rfl, ⟨none, 0, rfl, by simp, by omega, ⟨fun _ => rfl, fun _ x => (by cases x)⟩, .inl ⟨rfl, rfl⟩⟩, ⟨none, 0, rfl, by simp, by omega, ⟨fun _ => rfl, fun _ x => (by cases x)⟩, .inl ⟨rfl, rfl⟩⟩, by unfold RepLs; rfl, by unfold RepFs; rfl, ⟨h5, by simp, by simp⟩, ⟨h1, h2⟩, ⟨h3, h4⟩⟩
 have hz : ∀ n : Int, -9223372036854775808 ≤ IntKind.i64.wrap n ∧ IntKind.i64.wrap n ≤ 9223372036854775807 := fun n => by
  unfold IntKind.wrap; simp only [IntKind.signed, IntKind.bits]; simp; omega
 have hw : ∀ n : Int, -9223372036854775808 ≤ IntKind.i64.wrap n := fun n => (hz n).1
 unfold plainO plainV
 split
 ·exact key _ _ _ (by omega) (by omega) (by omega) (by omega) (by simp)
 ·split
  ·exact key _ _ _ (by omega) (by omega) (by omega) (by omega) (by simp)
  ·split
   ·exact key _ _ _ (by omega) (by omega) (hz _).1 (hz _).2 (by simp)
   ·split
    ·split
     ·exact key _ _ _ (by omega) (by omega) (by omega) (by omega) (by simp)
     ·rename_i b hb
      have := upk_len hb
      refine key _ _ _ (by omega) (by omega) (by omega) (by omega) ?_
      simp only [strOf, ByteArray.size, List.size_toArray, List.length_map]
      simp only [List.length_drop] at this
      omega
    ·exact key _ _ _ (by omega) (by omega) (by omega) (by omega) (by simp)
variable {E : Env} (hE : EOk E)
include hE
theorem lab0 {h0 : Heap} {L : HL} {W nS : Nat} {R : List Nat} {O : Om} (H : IsO E h0 L W nS R O) (hW : WF E h0) {rb : Nat} (hrb : ∀ b, b ∈ L.blocks → b < rb) (nbr : (rb < E.base) = False) {x : Nat} {c2 : Code} (hc2 : findLabel readB 2 = some c2) (ih : LabOk E L O h0 rb x 2 c2) : ∃ c, findLabel readB 0 = some c ∧ LabOk E L O h0 rb x 0 c := by
 refine ⟨_, rfl, ?_⟩
 intro n tm h HJ
 obtain ⟨y, HJ⟩ := HJ
 obtain ⟨left, st, G, hl, hok, hn, hrd, M, vc, hv, hvl, f1⟩ := HJ
 have hrb2 := M.rbl
 simp only at hn f1
 have nb0 : (h0.next < E.base) = False := by have := hW.base; simp; omega
 have nb1 : (h0.next + 1 < E.base) = False := by have := hW.base; simp; omega
 have nb2 : (h0.next + 2 < E.base) = False := by have := hW.base; simp; omega
 have f0 := M.f0
 have gr := M.rd
 obtain ⟨sv, cs, bs, f6, hown, hfr, hnd, hGn⟩ := M.stk
 obtain ⟨sa, sk, rfl, _⟩ := Own.slice hown
 obtain ⟨l', hl'⟩ : ∃ l' : Int, l' = left - 1 := ⟨_, rfl⟩
 have hl2 : IntKind.i64.wrap l' = l' := wr64 (by omega) (by omega)
 have M1 := M.setLeft l'
 have gr1 := M1.rd
 simp only [push_cast, seval, hE.P, wpc_block, f0, gr, nbr, ← hl', hl2, awrite]
 obtain ⟨hA, hhA⟩ : ∃ hA, hA = h.put rb (.cells [.pointer (some ⟨L.ph, 0, none⟩), .int .i64 l'] 125 true) := ⟨_, rfl⟩
 rw [← hhA] at M1 gr1
 rw [← hhA]
 have f4 := M.f4
 have f8 := M.f8
 have grr := M1.res
 obtain ⟨oa, ob, oc, hob⟩ := M1.ob
 have nxA : h.next ≤ hA.next := by rw [hhA, next_put]; exact Nat.le_refl _
 have hvA : hA.get (h0.next + 1) = some (.cells vc 25 true) := by rw [hhA, get_put, if_neg (by have := M.rbl; omega)]; exact hv
 by_cases hL : left = 0
 ·have e0 : decide (l' < 0) = true := by simp; omega
  simp only [push_cast, seval, hE.P, wpc_block, e0, f4, grr, nb0, awrite]
  exact M1.endo (hrd _ (.fin (by simp only [rstep]; rw [if_pos (.inl hL)]))) rep_zero
 ·have e0 : decide (l' < 0) = false := by simp; omega
  simp only [push_cast, seval, hE.P, wpc_block, e0, f6]
  refine kif_split (fun hb => ?_) (fun hb => ?_)
  ·have h8 : 8 < st.length := by have := of_decide_eq_true hb; omega
   simp only [push_cast, seval, hE.P, wpc_block, f4, grr, nb0, awrite]
   exact M1.endo (hrd _ (.fin (by simp only [rstep]; rw [if_pos (.inr h8)]))) rep_zero
  ·have h8 : ¬ (left = 0 ∨ 8 < st.length) := by have := of_decide_eq_false hb; omega
   simp only [push_cast, seval, hE.P, wpc_block, f0, f1]
   refine (object_at hE (M1.kept H hrb) M1.wf M1.rd hok.2.1).mono ?_
   rintro w h1 ⟨hw1, hw2, k1, w1⟩
   have hob1 := k1.get _ _ hob
   have hv1 := k1.get _ _ hvA
   cases ho : obj O y with
   | none =>
     have hw := hw1 ho
     subst hw
     have hM2 : ∀ a b c, RdM E L O h0 rb l' st G tm (h1.put (h0.next + 2) (.cells [a, b, c] 127 true)) := fun a b c =>
      M1.step (fun b o _ hb hg => by rw [get_put, if_neg (by omega)]; exact k1.get _ _ hg) ⟨a, b, c, by rw [get_put, if_pos rfl]⟩ (w1.put hob1) (by rw [next_put]; exact k1.next) (Sub.refl _) (M1.frz.but fun b o hb hg => by
       obtain ⟨cb, hcb⟩ := Option.isSome_iff_exists.1 hb
       have := M1.dom b cb hcb
       rw [get_put, if_neg (by omega)]; exact k1.get _ _ hg) (fun b c hb => .inl hb)
     have M2 := hM2 (.int .i64 0) (.slice none 0 0) (.slice none 0 0)
     have gr2 := M2.res
     rw [get_put, if_neg (by omega)] at gr2
     simp only [push_cast, seval, hE.P, wpc_block, f4, f8, hob1, nb0, nb2, awrite, gr2]
     have := M2.endo (hrd _ (.fin (by simp only [rstep]; rw [if_neg h8, ho]))) rep_zero (o := .cells [.int .i64 0, .int .i64 0, .string .empty, .slice none 0 0, .slice none 0 0] 25 true)
     simpa only [get_put, next_put] using this
   | some o =>
     obtain ⟨rv, sw, rfl, own1, own2⟩ := hw2 o ho
     obtain ⟨o1, o2, o3, o4⟩ := H.okO _ o ho
     obtain ⟨G1, sl1, sub1, fz1, new1⟩ := own1.addF w1 (M1.frz.keep k1)
     obtain ⟨G2, sl2, sub2, fz2, new2⟩ := own2.addF w1 fz1
     have hnx := M1.next
     have hdl : (o.ws.drop o.refs).length = o.ws.length - o.refs := List.length_drop
     have htl : (o.ws.take o.refs).length = o.refs := by rw [List.length_take]; omega
     have hnew : ∀ b c, G2 b = some c → G b = some c ∨ hA.next ≤ b := fun b c hc => by
      rcases new2 b c hc with h4 | h4
      ·rcases new1 b c h4 with h5 | h5
       ·exact .inl h5
       ·exact .inr h5.2
      ·exact .inr h4.2
     obtain ⟨ra, rc, rfl, _⟩ := Own.slice own1
     obtain ⟨ga, gc, rfl, _⟩ := Own.slice own2
     have M2 : RdM E L O h0 rb l' st G2 tm (h1.put (h0.next + 2) (.cells [.int .i64 o.tag, .slice ra o.refs rc, .slice ga (o.ws.length - o.refs) gc] 127 true)) :=
      M1.step (fun b o _ hb hg => by rw [get_put, if_neg (by omega)]; exact k1.get _ _ hg) ⟨_, _, _, by rw [get_put, if_pos rfl]⟩ (w1.put hob1) (by rw [next_put]; exact k1.next) (sub1.trans sub2) (fz2.but fun b o hb hg => by
       obtain ⟨cb, hcb⟩ := Option.isSome_iff_exists.1 hb
       rw [get_put, if_neg (by rcases hnew b cb hcb with h4 | h4
                               ·have := M1.dom b cb h4; omega
                               ·omega)]; exact hg) (fun b c hb => hnew b c hb)
     have gob : (h1.put (h0.next + 2) (.cells [.int .i64 o.tag, .slice ra o.refs rc, .slice ga (o.ws.length - o.refs) gc] 127 true)).get (h0.next + 2) = some (.cells [.int .i64 o.tag, .slice ra o.refs rc, .slice ga (o.ws.length - o.refs) gc] 127 true) := by rw [get_put, if_pos rfl]
     have hvB : (h1.put (h0.next + 2) (.cells [.int .i64 o.tag, .slice ra o.refs rc, .slice ga (o.ws.length - o.refs) gc] 127 true)).get (h0.next + 1) = some (.cells vc 25 true) := by rw [get_put, if_neg (by omega)]; exact hv1
     obtain ⟨hB, hhB⟩ : ∃ hB, hB = h1.put (h0.next + 2) (.cells [.int .i64 o.tag, .slice ra o.refs rc, .slice ga (o.ws.length - o.refs) gc] 127 true) := ⟨_, rfl⟩
     have wr1 : awrite h1 ⟨h0.next + 2, 0, none⟩ [.int .i64 o.tag, .slice ra o.refs rc, .slice ga (o.ws.length - o.refs) gc] = some hB := by rw [hhB]; simp [awrite, hob1, splice, Value.oneCell']
     rw [← hhB] at M2 gob hvB
     clear hhB
     simp only [push_cast, seval, hE.P, wpc_block, f4, f8, wr1, gob, nb2]
     have hf0 := M.f0
     have hf7 := M.f7
     refine kguard_cut (fun tm' h' => fget tm' 47 = .bool (decide (o.tag = 5 ∨ o.tag = 6)) ∧ fget tm' 6 = .slice sa st.length sk ∧ fget tm' 0 = .pointer (some ⟨rb, 0, none⟩) ∧ fget tm' 4 = .pointer (some ⟨h0.next, 0, none⟩) ∧ fget tm' 7 = .pointer (some ⟨h0.next + 1, 0, none⟩) ∧ fget tm' 8 = .pointer (some ⟨h0.next + 2, 0, none⟩) ∧ h' = hB) ?_ ?_
     rotate_left
     ·have c5 : ((o.tag : Int) == 5) = decide (o.tag = 5) := by rw [Bool.eq_iff_iff]; simp; omega
      have c6 : ((o.tag : Int) == 6) = decide (o.tag = 6) := by rw [Bool.eq_iff_iff]; simp; omega
      rw [c5]
      by_cases d5 : o.tag = 5 <;> by_cases d6 : o.tag = 6 <;> (try omega) <;> simp only [push_cast, seval, hE.P, wpc_block, f6, f0, f4, f8, hf7, gob, nb2, c5, c6, d5, d6]
     ·rintro tm2 h2 ⟨p47, p6, p0, p4, p7, p8, rfl⟩
      have M3 := M2.retm (tm' := tm2) (by rw [p6, f6]) (by rw [p0, f0]) (by rw [p4, f4]) (by rw [p7, hf7]) (by rw [p8, f8])
      have gr3 := M3.res
      simp only [push_cast, seval, hE.P, wpc_block, p47]
      refine kif_split (fun hb2 => ?_) (fun hb2 => ?_)
      ·have ht := of_decide_eq_true hb2
       have cA : decide (0 < ((o.ws.length - o.refs : Nat) : Int)) = decide (o.refs < o.ws.length) := by rw [Bool.eq_iff_iff]; simp; omega
       have cB : decide (64 < (o.refs : Int)) = decide (64 < o.refs) := by rw [Bool.eq_iff_iff]; simp; omega
       have cC : ((o.tag : Int) == 6) = decide (o.tag = 6) := by rw [Bool.eq_iff_iff]; simp; omega
       have cM : (o.refs : Int).tmod 2 = ((o.refs % 2 : Nat) : Int) := by rw [Int.tmod_eq_emod_of_nonneg (by omega)]; omega
       have cF : ((o.refs : Int) % 2 == 1) = decide (o.refs % 2 = 1) := by rw [Bool.eq_iff_iff]; simp; omega
       have cE : IntKind.i64.wrap ((o.refs % 2 : Nat) : Int) = ((o.refs % 2 : Nat) : Int) := wr64 (by omega) (by omega)
       have cD : (((o.refs % 2 : Nat) : Int) == 1) = decide (o.refs % 2 = 1) := by rw [Bool.eq_iff_iff]; simp; omega
       simp only [push_cast, seval, hE.P, wpc_block, p8, gob, nb2]
       refine kguard_cut (fun tm' h' => fget tm' 69 = .bool (decide (o.refs < o.ws.length ∨ 64 < o.refs ∨ (o.tag = 6 ∧ o.refs % 2 = 1))) ∧ fget tm' 6 = .slice sa st.length sk ∧ fget tm' 0 = .pointer (some ⟨rb, 0, none⟩) ∧ fget tm' 4 = .pointer (some ⟨h0.next, 0, none⟩) ∧ fget tm' 7 = .pointer (some ⟨h0.next + 1, 0, none⟩) ∧ fget tm' 8 = .pointer (some ⟨h0.next + 2, 0, none⟩) ∧ h' = h2) ?_ ?_
       rotate_left
       ·rw [cA]
        by_cases dA : o.refs < o.ws.length
        ·simp only [push_cast, seval, hE.P, wpc_block, p6, p0, p4, p7, p8, gob, nb2, dA, true_or, or_true]
        ·by_cases dB : 64 < o.refs
         ·simp only [push_cast, seval, hE.P, wpc_block, p6, p0, p4, p7, p8, gob, nb2, dA, cB, dB, true_or, or_true]
         ·by_cases dC : o.tag = 6
          ·by_cases dD : o.refs % 2 = 1 <;> simp only [push_cast, seval, hE.P, wpc_block, p6, p0, p4, p7, p8, gob, nb2, dA, cB, dB, cC, dC, cM, cE, cD, cF, dD]
          ·simp only [push_cast, seval, hE.P, wpc_block, p6, p0, p4, p7, p8, gob, nb2, dA, cB, dB, cC, dC, false_and]
       ·rintro tm3 h3 ⟨r69, r6, r0, r4, r7, r8, rfl⟩
        have M4 := M3.retm (tm' := tm3) (by rw [r6, p6]) (by rw [r0, p0]) (by rw [r4, p4]) (by rw [r7, p7]) (by rw [r8, p8])
        simp only [push_cast, seval, hE.P, wpc_block, r69]
        refine kif_split (fun hb3 => ?_) (fun hb3 => ?_)
        ·have hbad := of_decide_eq_true hb3
         simp only [push_cast, seval, hE.P, wpc_block, r4, gr3, nb0, awrite]
         exact M4.endo (hrd _ (.fin (by simp only [rstep]; rw [if_neg h8, ho]; simp only; rw [if_pos ht, if_pos hbad]))) rep_zero
        ·have hgood := of_decide_eq_false hb3
         simp only [push_cast, seval, hE.P, wpc_block, r6, r8, gob, nb2]
         rw [bs187 rfl, kalloc_some]
         simp only [push_cast, seval, hE.P, wpc_block, r6]
         obtain ⟨sv', cs', bs', g6, hown', hfr', hnd', hGn'⟩ := M4.stk
         rw [r6] at g6
         subst g6
         refine kwv_app1 (el187 hE.P) M4.wf (lo := h0.next + 3) M4.next hown' rfl rfl (by omega) (by omega) ?_
         intro v' h4 hown4 hbut hblk hnx4 w4
         obtain ⟨va, vk, rfl, _⟩ := Own.slice hown4
         simp only [push_cast, seval, hE.P, wpc_block, r0, r4, r7, r8]
         have hob4 := M4.ob
         obtain ⟨xa, xb, xc, hob4⟩ := hob4
         have hl1 := hown'.lt M4.wf
         have hl2 := hfr'.live M4.wf
         have hlow : ∀ b o, b < h0.next + 3 → h3.get b = some o → h4.get b = some o := fun b o hb hg => hbut b o hg (fun hh => by have := hl1 b hh; omega)
         have hstep : rstep O left st (.obj y) = .inr (left - 1, ⟨o.tag, o.ws.take o.refs, .empty, [], []⟩ :: st, .next) := by
          simp only [rstep]; rw [if_neg h8, ho]; simp only; rw [if_pos ht, if_neg hgood]
         refine ⟨n - 1, by omega, left - 1, _, G2, by omega, OkSt.step H.okO hstep hok, by simp only [List.length_cons]; omega, fun r hh => hrd r (.go hstep hh), ?_, vc, hlow _ _ (by omega) hvB, hvl, trivial⟩
         refine ⟨M4.rbl, w4, M4.frz.but fun b o hb hg => hbut b o hg (fun hh => ?_), M4.dom, fun b o hb hg => hlow b o (by omega) (M4.lo b o hb hg), by have := M4.next; omega, ?_, hlow _ _ (by omega) M4.res, ⟨xa, xb, xc, hlow _ _ (by omega) hob4⟩,
          ⟨_, _, [] ++ bs', by simp only [push_cast, seval, hE.P, wpc_block], hown4, ⟨cs', _, bs', [], rfl, rfl, hfr'.but (Sub.refl _) fun b o hb hg => hbut b o hg (fun hh => ?_), ⟨.slice ra o.refs rc, .slice none 0 0, .slice none 0 0, [], [], rfl, by rw [htl]; exact sl1.sub sub2, .inl ⟨rfl, rfl, rfl⟩, by unfold RepLs; rfl, .inl ⟨rfl, rfl, rfl⟩, by unfold RepFs; rfl, rfl⟩⟩, ?_, ?_⟩, by simp only [push_cast, seval, hE.P, wpc_block, r0], by simp only [push_cast, seval, hE.P, wpc_block, r4], by simp only [push_cast, seval, hE.P, wpc_block, r7], by simp only [push_cast, seval, hE.P, wpc_block, r8]⟩
         ·rw [hGn' b (by simp [hh])] at hb; cases hb
         ·have : ((left - 1 : Nat) : Int) = l' := by omega
          rw [this]
          exact hlow _ _ (by omega) M4.rd
         ·exact (List.nodup_append.1 hnd').2.2 b hh b hb rfl
         ·show (slB (.slice va (st.length + 1) vk) ++ bs').Nodup
          refine List.nodup_append.2 ⟨by cases va <;> simp [slB], (List.nodup_append.1 hnd').2.1, fun a ha b hb e => ?_⟩
          subst e
          rcases hblk a ha with h5 | h5
          ·exact (List.nodup_append.1 hnd').2.2 a h5 a hb rfl
          ·have := hl2 a hb; omega
         ·intro b hb
          replace hb : b ∈ slB (.slice va (st.length + 1) vk) ++ bs' := hb
          rcases List.mem_append.1 hb with h5 | h5
          ·rcases hblk b h5 with h6 | h6
           ·exact hGn' b (by simp [h6])
           ·cases hc : G2 b with
            | none => rfl
            | some c =>
              obtain ⟨e, fx, hh⟩ := M4.frz b c hc
              have := (M4.wf.live _ _ hh).2; omega
          ·exact hGn' b (by simp [h5])
      ·have ht := of_decide_eq_false hb2
       simp only [push_cast, seval, hE.P, wpc_block, p8, gob, nb2]
       refine (plain_at hE M3.wf M3.frz (tag := o.tag) (nr := o.refs) (ws := o.ws.drop o.refs) (by omega) (fun y hy => o4 y (List.mem_of_mem_drop hy)) (by rw [hdl]; exact sl2)).mono ?_
       rintro w h3 ⟨rfl, k3, w3⟩
       have hP : plainV o.tag o.refs (o.ws.drop o.refs) = plainO o := rfl
       rw [hP]
       unfold flat
       have hv3 := k3.get _ _ hvB
       have hM5 : ∀ c, RdM E L O h0 rb l' st G2 tm2 (h3.put (h0.next + 1) (.cells c 25 true)) := fun c =>
        M3.step (fun b o hb _ hg => by rw [get_put, if_neg (by omega)]; exact k3.get _ _ hg) ⟨_, _, _, by rw [get_put, if_neg (by omega)]; exact k3.get _ _ gob⟩ (w3.put hv3) (by rw [next_put]; exact k3.next) (Sub.refl _) (M3.frz.but fun b o hb hg => by
         obtain ⟨cb, hcb⟩ := Option.isSome_iff_exists.1 hb
         have := M3.dom b cb hcb
         rw [get_put, if_neg (by omega)]; exact k3.get _ _ hg) (fun b c hb => .inl hb)
       obtain ⟨P, hPd⟩ : ∃ P, P = plainO o := ⟨_, rfl⟩
       rw [← hPd]
       obtain ⟨V, ok⟩ := P
       simp only
       have M5 := hM5 [.int .i64 V.k, .int .i64 V.n, .string V.s, .slice none 0 0, .slice none 0 0]
       have gr5 := M5.res
       have hvc5 : vc.drop 5 = [] := List.drop_eq_nil_of_le (by omega)
       have wr5 : awrite h3 ⟨h0.next + 1, 0, none⟩ [.int .i64 V.k, .int .i64 V.n, .string V.s, .slice none 0 0, .slice none 0 0] = some (h3.put (h0.next + 1) (.cells [.int .i64 V.k, .int .i64 V.n, .string V.s, .slice none 0 0, .slice none 0 0] 25 true)) := by
        unfold awrite; simp only [hv3]
        rw [if_pos ⟨by simp; omega, rfl⟩]
        simp [splice, hvc5]
       have gv5 : (h3.put (h0.next + 1) (.cells [.int .i64 V.k, .int .i64 V.n, .string V.s, .slice none 0 0, .slice none 0 0] 25 true)).get (h0.next + 1) = some (.cells [.int .i64 V.k, .int .i64 V.n, .string V.s, .slice none 0 0, .slice none 0 0] 25 true) := by rw [get_put, if_pos rfl]
       obtain ⟨h5, hh5⟩ : ∃ h5, h5 = h3.put (h0.next + 1) (.cells [.int .i64 V.k, .int .i64 V.n, .string V.s, .slice none 0 0, .slice none 0 0] 25 true) := ⟨_, rfl⟩
       rw [← hh5] at M5 gr5 wr5 gv5
       simp only [push_cast, seval, hE.P, wpc_block, p7, wr5]
       cases ok with
       | false =>
         simp only [push_cast, seval, hE.P, wpc_block, p4, gr5, nb0, awrite]
         exact M5.endo (hrd _ (.fin (by simp only [rstep]; rw [if_neg h8, ho]; simp only; rw [if_neg ht, ← hPd]; rfl))) rep_zero
       | true =>
         simp only [push_cast, seval, hE.P, wpc_block]
         have hstep : rstep O left st (.obj y) = .inr (left - 1, st, .done V) := by
          simp only [rstep]; rw [if_neg h8, ho]; simp only; rw [if_neg ht, ← hPd]; rfl
         cases hc2
         refine wpc_label_cut (wpc_mono _ (kgoto_mono (by omega : n - 1 ≤ n)) _ _ (ih (n - 1) _ _ ⟨V, ?_⟩))
         have hz : (plainO o).1 = V := by rw [← hPd]
         refine ⟨left - 1, st, G2, by omega, OkSt.step H.okO hstep hok, by simp only; omega, fun r hh => hrd r (.go hstep hh), ?_, _, gv5, rfl, ?_⟩
         ·have : ((left - 1 : Nat) : Int) = l' := by omega
          rw [this]
          exact M5.retm (by simp only [push_cast, seval, hE.P, wpc_block]) (by simp only [push_cast, seval, hE.P, wpc_block]) (by simp only [push_cast, seval, hE.P, wpc_block]) (by simp only [push_cast, seval, hE.P, wpc_block]) (by simp only [push_cast, seval, hE.P, wpc_block])
         ·exact hz ▸ plain_rep (o1 := o1) (o3 := o3) G2
end Go.Proofs.YthfopcdammlmfaaGreatDoor.G
