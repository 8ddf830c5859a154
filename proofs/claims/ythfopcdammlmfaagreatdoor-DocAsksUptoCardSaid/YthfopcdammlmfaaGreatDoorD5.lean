/- The reader: what is done. -/
import Derived.Test.YthfopcdammlmfaaGreatDoorD3
set_option maxRecDepth 10000
set_option linter.all false
set_option linter.unusedSimpArgs false
set_option linter.unusedVariables false
namespace Go.Proofs.YthfopcdammlmfaaGreatDoor
open Go.Tm
variable {E : Env} (hE : EOk E)
include hE
theorem lab2 {h0 : Heap} {L : HL} {W nS : Nat} {R : List Nat} {O : List Ob} (H : IsO E h0 L W nS R O) (hW : WF E h0) {rb : Nat} (hrb : ∀ b, b ∈ L.blocks → b < rb) (nbr : (rb < E.base) = False) {x : Nat} {c1 : Code} (hc1 : findLabel readB 1 = some c1) (ih : LabOk E L O h0 rb x 1 c1) : ∃ c, findLabel readB 2 = some c ∧ LabOk E L O h0 rb x 2 c := by
  refine ⟨_, rfl, ?_⟩
  intro n tm h HJ
  obtain ⟨v, HJ⟩ := HJ
  obtain ⟨left, st, G, hl, hok, hn, hrd, M, vc, hv, hvl, hV⟩ := HJ
  have hrb2 := M.rbl
  simp only at hn hV
  obtain ⟨sl, sf, cl, cf, rfl, hsl, hsf, _⟩ := hV.cells
  obtain ⟨va, vk, rfl, _, _⟩ := hsl.slice
  obtain ⟨wa, wk, rfl, _, _⟩ := hsf.slice
  have nb0 : (h0.next < E.base) = False := by have := hW.base; simp; omega
  have nb1 : (h0.next + 1 < E.base) = False := by have := hW.base; simp; omega
  cases st with
  | nil =>
    obtain ⟨sv, cs, bs, f6, hown, _⟩ := M.stk
    obtain ⟨sa, sk, rfl, _⟩ := Own.slice hown
    have f7 := M.f7
    have f4 := M.f4
    have gr := M.res
    simp only [push_cast, seval, hE.P, wpc_block, f6, f7, f4, gr, hv, nb0, nb1, awrite]
    exact M.endo (hrd _ (.fin rfl)) hV
  | cons t s =>
    obtain ⟨hsk, hlen⟩ := hok
    have htk := hsk t (by simp)
    obtain ⟨sb, cap, rest, fx, c0, rv, lv, fv, lc, fc, bs, f6, m1, m2, hg, hc0, hrest, q1, q3, q4, q5, q6, hfs, hnd, hGn, hsb, nbs⟩ := M.top
    obtain ⟨k, hk⟩ : ∃ k, k = s.length := ⟨_, rfl⟩
    obtain ⟨k1, hk1⟩ : ∃ k1, k1 = k + 1 := ⟨_, rfl⟩
    rw [← hk, ← hk1] at f6 m1
    rw [← hk] at hc0
    have e1 : (k1 : Int) - 1 = k := by omega
    have e2 : IntKind.i64.wrap (k : Int) = k := wrN (by simp at hlen; omega)
    have e3 : ((k1 : Int) == 0) = false := by simp; omega
    have hq3 := q3
    have hq5 := q5
    obtain ⟨la, lk, rfl, _⟩ := Own.slice q3
    obtain ⟨fa, fk, rfl, _⟩ := Own.slice q5
    have rd : ∀ j m, j + m ≤ 8 → acells E h ⟨sb, k * 8 + j, none⟩ m = some (([.int .i64 t.tag, rv, .string t.name, .int .i64 t.tag, .int .i64 0, .string .empty, .slice la t.l.length lk, .slice fa t.f.length fk].drop j).take m) := fun j m hjm => stk_read nbs hg hc0 rfl hjm
    have r0 := rd 0 1 (by omega)
    rw [Nat.add_zero] at r0
    have r2 := rd 2 1 (by omega)
    have r6 := rd 6 1 (by omega)
    have r7 := rd 7 1 (by omega)
    simp only [push_cast, seval, hE.P, wpc_block, f6, e1, e2, e3]
    rw [ia187 rfl (by omega) (by omega), kpure_some]
    simp only [push_cast, seval, hE.P, wpc_block, f6, e1, e2, ↓r0]
    have hok2 : OkSt (t.add v :: s) .next := OkSt.step (O := O) H.okO (left := left) (left' := left) (p := .done v) rfl ⟨hsk, hlen⟩
    have hnn := htk.2.2.2.2
    simp only [Fm.n] at hnn
    refine kif_cutS (fun tm' h' => ∃ m, m < n ∧ JJ E L O h0 rb x .next m tm' h') ?_ ?_
    · rintro tm h ⟨m, hm, hJ⟩
      have h1 := wpc_mono _ (kgoto_mono (by omega : m ≤ n)) _ _ (ih m tm h hJ)
      cases hc1
      exact h1
    · refine kif_split (fun hb => ?_) (fun hb => ?_)
      · have ht5 : t.tag = 5 := by have := eq_of_beq hb; omega
        simp only [push_cast, seval, hE.P, wpc_block]
        refine wdraw_sp [(4, 7), (5, 7)] 10 14 (by rw [hE.P]; decide +kernel) (by rw [hE.P]; decide +kernel) (by rw [hE.P]; decide +kernel) ?_
        have f7 := M.f7
        simp only [push_cast, seval, hE.P, wpc_block, f7, ↓r6, hv, nb1]
        rw [bs22 rfl, kalloc_some]
        simp only [push_cast, seval, hE.P, wpc_block, f7, ↓r6, hv, nb1]
        refine kwv_app1 (el22 hE.P) M.wf (lo := h0.next + 3) M.next hq3 rfl rfl (by omega) (by omega) ?_
        intro v' h1 hown1 hbut hblk hnx1 w1
        have hlc := q4.len
        obtain ⟨vb, vcap, h2, hv', hvc, haw, hown2, hk2, hn2, w2⟩ := Own.last (ys := [.int .i64 v.k, .int .i64 v.n, .string v.s, .slice va v.l.length vk, .slice wa v.f.length wk]) w1 hown1 (by rw [hlc]) rfl rfl
        subst hv'
        obtain ⟨d1, d2, d3, d4, d5, d6, d7⟩ := nd3 hnd
        have hvb : vb ∈ slB (.slice la t.l.length lk) ∨ h.next ≤ vb := hblk vb (by simp [slB])
        have hlive : ∀ b o, h.get b = some o → b < h.next := fun b o hb => (M.wf.live _ _ hb).2
        have hkeep : ∀ b o, h.get b = some o → b ∉ slB (.slice la t.l.length lk) → h2.get b = some o := fun b o hb hn => by
          refine hk2 b o (fun e => ?_) (hbut b o hb hn)
          subst e
          rcases hvb with h3 | h3
          · exact hn h3
          · have := hlive _ _ hb; omega
        have hsbn : sb ∉ slB (.slice la t.l.length lk) := fun hh => (d2 sb hh).2.1 rfl
        have hg2 := hkeep _ _ hg hsbn
        have hn1 : h0.next + 1 ∉ slB (.slice la t.l.length lk) := fun hh => by have := q3.lt M.wf _ hh; omega
        have hv2 := hkeep _ _ hv hn1
        have wr6 := stk_write (vs := [.slice (some ⟨vb, 0, none⟩) (t.l.length + 1) vcap]) (j := 6) hg2 hc0 rfl (by simp) rfl
        have hgp := ((Keep.refl h).push (o := .cells [.int .i64 0, .int .i64 0, .string .empty, .slice none 0 0, .slice none 0 0] 25 true) M.wf).get _ _ hg
        have r6p : acells E _ ⟨sb, k * 8 + 3 + 3, none⟩ 1 = some _ := stk_read (j := 6) (m := 1) nbs hgp hc0 rfl (by omega)
        have neE : ¬ h.next = h0.next + 1 := by have := M.next; omega
        have hvbsb : ¬ vb = sb := by
          intro e
          rcases hvb with h3 | h3
          · exact (d2 vb h3).2.1 e
          · have := hlive _ _ hg; omega
        simp only [push_cast, seval, hE.P, wpc_block, f7]
        rw [ia22 rfl (by omega) (by omega), kpure_some]
        simp only [push_cast, seval, hE.P, wpc_block, f7, ↓r6, ↓r6p, hv, nb1, haw, wr6, neE, spOk, ostep, plainStore, apartW, hvbsb]
        refine ⟨⟨?_, by simp⟩, ?_⟩
        · have := r6p
          simp only [acells, get_push] at this
          exact congrArg (fun x : Option (List Value) => x.bind fun l => l[0]?) this
        · refine ⟨n - 1, by omega, ?_⟩
          have hput : h2.put sb (.cells (c0 ++ .int .i64 t.tag :: rv :: .string t.name :: .int .i64 t.tag :: .int .i64 0 :: .string .empty :: .slice (some ⟨vb, 0, none⟩) (t.l.length + 1) vcap :: .slice fa t.f.length fk :: rest) 190 fx) = h2.put sb (.cells (c0 ++ ([.int .i64 t.tag, rv, .string t.name, .int .i64 t.tag, .int .i64 0, .string .empty, .slice (some ⟨vb, 0, none⟩) (t.l.length + 1) vcap, .slice fa t.f.length fk] ++ rest)) 190 fx) := rfl
          rw [hput]
          refine ⟨left, _, G, hl, hok2, by simp only [List.length_cons] at hn ⊢; omega, fun r hh => hrd r (.go (left' := left) (p' := .next) rfl hh), ?_, [.int .i64 v.k, .int .i64 v.n, .string v.s, .slice va v.l.length vk, .slice wa v.f.length wk], ?_, rfl, trivial⟩
          · have hadd : t.add v = { t with l := t.l ++ [v] } := by unfold Fm.add; rw [if_pos ht5]
            rw [hadd]
            have hlv := q3.lt M.wf
            have hfv := q5.lt M.wf
            have hkp : ∀ o' b o, h.get b = some o → b ∉ slB (.slice la t.l.length lk) → b ≠ sb → (h2.put sb o').get b = some o := fun o' b o hb h1 h2 => by
              rw [get_put, if_neg (by omega)]; exact hkeep b o hb h1
            have hvbf : vb ∉ slB (.slice fa t.f.length fk) := fun hh => by
              rcases hvb with h3 | h3
              · exact (d2 vb h3).1 hh
              · have := hfv vb hh; omega
            refine M.setApp (t' := { t with l := t.l ++ [v] }) (by omega) m2 (by omega) (by omega) q1 hfs (fun b hb => (List.mem_append.1 hb).elim (fun h1 => (hlv b h1).1) (fun h1 => (hfv b h1).1)) hnd hGn hsb (hlive _ _ hg) (fun b o hb h1 _ h2 => hkp _ b o hb h1 h2) (by rw [get_put, if_pos rfl]) (w2.put hg2) (by rw [next_put]; omega)
              (lc' := lc ++ [.int .i64 v.k, .int .i64 v.n, .string v.s, .slice va v.l.length vk, .slice wa v.f.length wk]) (fc' := fc) ?_ (RepLs.app q4 (RepLs.one hV)) ?_ q6 ?_ ?_ ?_ (by simp only [push_cast, seval, hE.P, wpc_block, M.f0]) (by simp only [push_cast, seval, hE.P, wpc_block, M.f4]) (by simp only [push_cast, seval, hE.P, wpc_block, M.f7]) (by simp only [push_cast, seval, hE.P, wpc_block, M.f8])
            · have hlen1 : (t.l ++ [v]).length = t.l.length + 1 := by simp
              rw [hlen1]
              exact hown2.but fun b o hb hgb => by
                rw [get_put, if_neg (by simp only [slB, List.mem_singleton] at hb; omega)]; exact hgb
            · exact hq5.but fun b o hb hgb => hkp _ b o hgb (fun hh => (d3 b hb).1 hh) (d3 b hb).2.1
            · intro b hb
              rcases List.mem_append.1 hb with h1 | h1
              · rcases hblk b h1 with h3 | h3
                · left; rw [List.mem_append]; exact .inl h3
                · exact .inr h3
              · left; rw [List.mem_append]; exact .inr h1
            · refine List.nodup_append.2 ⟨by simp [slB], d6, fun a ha b hb e => ?_⟩
              simp only [slB, List.mem_singleton] at ha
              subst ha; subst e
              exact hvbf hb
            · rw [← hk, ← hk1]
              simp only [push_cast, seval, hE.P, wpc_block, f6]
          · rw [get_put, if_neg (by omega)]; exact hv2
      · have ht5 : t.tag ≠ 5 := by intro e; rw [e] at hb; simp at hb
        simp only [push_cast, seval, hE.P, wpc_block]
        refine wdraw_sp [(4, 12), (8, 12), (9, 12)] 15 19 (by rw [hE.P]; decide +kernel) (by rw [hE.P]; decide +kernel) (by rw [hE.P]; decide +kernel) ?_
        have f7 := M.f7
        simp only [push_cast, seval, hE.P, wpc_block, f7, ↓r7, ↓r2, hv, nb1]
        rw [bs23 rfl, kalloc_some]
        simp only [push_cast, seval, hE.P, wpc_block, f7, ↓r7, ↓r2, hv, nb1]
        refine kwv_app1 (el23 hE.P) M.wf (lo := h0.next + 3) M.next hq5 rfl rfl (by omega) (by omega) ?_
        intro v' h1 hown1 hbut hblk hnx1 w1
        have hlc := q6.len
        obtain ⟨vb, vcap, h2, hv', hvc, haw, hown2, hk2, hn2, w2⟩ := Own.last (ys := [.string t.name, .int .i64 v.k, .int .i64 v.n, .string v.s, .slice va v.l.length vk, .slice wa v.f.length wk]) w1 hown1 (by rw [hlc]) rfl rfl
        subst hv'
        obtain ⟨d1, d2, d3, d4, d5, d6, d7⟩ := nd3 hnd
        have hvb : vb ∈ slB (.slice fa t.f.length fk) ∨ h.next ≤ vb := hblk vb (by simp [slB])
        have hlive : ∀ b o, h.get b = some o → b < h.next := fun b o hb => (M.wf.live _ _ hb).2
        have hkeep : ∀ b o, h.get b = some o → b ∉ slB (.slice fa t.f.length fk) → h2.get b = some o := fun b o hb hn => by
          refine hk2 b o (fun e => ?_) (hbut b o hb hn)
          subst e
          rcases hvb with h3 | h3
          · exact hn h3
          · have := hlive _ _ hb; omega
        have hsbn : sb ∉ slB (.slice fa t.f.length fk) := fun hh => (d3 sb hh).2.1 rfl
        have hg2 := hkeep _ _ hg hsbn
        have hn1 : h0.next + 1 ∉ slB (.slice fa t.f.length fk) := fun hh => by have := q5.lt M.wf _ hh; omega
        have hv2 := hkeep _ _ hv hn1
        have wr6 := stk_write (vs := [.slice (some ⟨vb, 0, none⟩) (t.f.length + 1) vcap]) (j := 7) hg2 hc0 rfl (by simp) rfl
        have hgp := ((Keep.refl h).push (o := .cells [.string .empty, .int .i64 0, .int .i64 0, .string .empty, .slice none 0 0, .slice none 0 0] 91 true) M.wf).get _ _ hg
        have r7p : acells E _ ⟨sb, k * 8 + 3 + 4, none⟩ 1 = some _ := stk_read (j := 7) (m := 1) nbs hgp hc0 rfl (by omega)
        have r2p : acells E _ ⟨sb, k * 8 + 2, none⟩ 1 = some _ := stk_read (j := 2) (m := 1) nbs hgp hc0 rfl (by omega)
        have neE : ¬ h.next = h0.next + 1 := by have := M.next; omega
        have hvbsb : ¬ vb = sb := by
          intro e
          rcases hvb with h3 | h3
          · exact (d3 vb h3).2.1 e
          · have := hlive _ _ hg; omega
        simp only [push_cast, seval, hE.P, wpc_block, f7]
        rw [ia23 rfl (by omega) (by omega), kpure_some]
        simp only [push_cast, seval, hE.P, wpc_block, f7, ↓r7, ↓r7p, ↓r2, ↓r2p, hv, nb1, haw, wr6, neE, spOk, ostep, plainStore, apartW, hvbsb]
        refine ⟨⟨⟨?_, ?_⟩, by simp⟩, ?_⟩
        · have := r7p
          simp only [acells, get_push] at this
          exact congrArg (fun x : Option (List Value) => x.bind fun l => l[0]?) this
        · have := r2p
          simp only [acells, get_push] at this
          exact congrArg (fun x : Option (List Value) => x.bind fun l => l[0]?) this
        · refine ⟨n - 1, by omega, ?_⟩
          have hput : h2.put sb (.cells (c0 ++ .int .i64 t.tag :: rv :: .string t.name :: .int .i64 t.tag :: .int .i64 0 :: .string .empty :: .slice la t.l.length lk :: .slice (some ⟨vb, 0, none⟩) (t.f.length + 1) vcap :: rest) 190 fx) = h2.put sb (.cells (c0 ++ ([.int .i64 t.tag, rv, .string t.name, .int .i64 t.tag, .int .i64 0, .string .empty, .slice la t.l.length lk, .slice (some ⟨vb, 0, none⟩) (t.f.length + 1) vcap] ++ rest)) 190 fx) := rfl
          rw [hput]
          refine ⟨left, _, G, hl, hok2, by simp only [List.length_cons] at hn ⊢; omega, fun r hh => hrd r (.go (left' := left) (p' := .next) rfl hh), ?_, [.int .i64 v.k, .int .i64 v.n, .string v.s, .slice va v.l.length vk, .slice wa v.f.length wk], ?_, rfl, trivial⟩
          · have hadd : t.add v = { t with f := t.f ++ [(t.name, v)] } := by unfold Fm.add; rw [if_neg ht5]
            rw [hadd]
            have hlv := q3.lt M.wf
            have hfv := q5.lt M.wf
            have hkp : ∀ o' b o, h.get b = some o → b ∉ slB (.slice fa t.f.length fk) → b ≠ sb → (h2.put sb o').get b = some o := fun o' b o hb h1 h2 => by
              rw [get_put, if_neg (by omega)]; exact hkeep b o hb h1
            have hvbf : vb ∉ slB (.slice la t.l.length lk) := fun hh => by
              rcases hvb with h3 | h3
              · exact (d2 vb hh).1 h3
              · have := hlv vb hh; omega
            refine M.setApp (t' := { t with f := t.f ++ [(t.name, v)] }) (by omega) m2 (by omega) (by omega) q1 hfs (fun b hb => (List.mem_append.1 hb).elim (fun h1 => (hlv b h1).1) (fun h1 => (hfv b h1).1)) hnd hGn hsb (hlive _ _ hg) (fun b o hb _ h1 h2 => hkp _ b o hb h1 h2) (by rw [get_put, if_pos rfl]) (w2.put hg2) (by rw [next_put]; omega)
              (fc' := fc ++ [.string t.name, .int .i64 v.k, .int .i64 v.n, .string v.s, .slice va v.l.length vk, .slice wa v.f.length wk]) (lc' := lc) ?_ q4 ?_ (RepFs.app q6 (RepFs.one (x := (t.name, v)) hV (by have := htk.2.2.2.1; simp only; omega))) ?_ ?_ ?_ (by simp only [push_cast, seval, hE.P, wpc_block, M.f0]) (by simp only [push_cast, seval, hE.P, wpc_block, M.f4]) (by simp only [push_cast, seval, hE.P, wpc_block, M.f7]) (by simp only [push_cast, seval, hE.P, wpc_block, M.f8])
            · exact hq3.but fun b o hb hgb => hkp _ b o hgb (d2 b hb).1 (d2 b hb).2.1
            · have hlen1 : (t.f ++ [(t.name, v)]).length = t.f.length + 1 := by simp
              rw [hlen1]
              exact hown2.but fun b o hb hgb => by
                rw [get_put, if_neg (by simp only [slB, List.mem_singleton] at hb; omega)]; exact hgb
            · intro b hb
              rcases List.mem_append.1 hb with h1 | h1
              · left; rw [List.mem_append]; exact .inl h1
              · rcases hblk b h1 with h3 | h3
                · left; rw [List.mem_append]; exact .inr h3
                · exact .inr h3
            · refine List.nodup_append.2 ⟨d5, by simp [slB], fun a ha b hb e => ?_⟩
              simp only [slB, List.mem_singleton] at hb
              subst hb; subst e
              exact hvbf ha
            · rw [← hk, ← hk1]
              simp only [push_cast, seval, hE.P, wpc_block, f6]
          · rw [get_put, if_neg (by omega)]; exact hv2
end Go.Proofs.YthfopcdammlmfaaGreatDoor
