/- The reader: what is next. -/
import Derived.Test.YthfopcdammlmfaaGreatDoorD3
set_option maxRecDepth 10000
set_option linter.all false
set_option linter.unusedSimpArgs false
set_option linter.unusedVariables false
namespace Go.Proofs.YthfopcdammlmfaaGreatDoor
open Go.Tm
variable {E : Env} (hE : EOk E)
include hE
theorem lab1 {h0 : Heap} {L : HL} {W nS : Nat} {R : List Nat} {O : List Ob} (H : IsO E h0 L W nS R O) (hW : WF E h0) {rb : Nat} (hrb : ∀ b, b ∈ L.blocks → b < rb) (nbr : (rb < E.base) = False) {x : Nat} : ∃ c, findLabel readB 1 = some c ∧ LabOk E L O h0 rb x 1 c := by
  refine ⟨_, rfl, ?_⟩
  intro n tm h HJ
  obtain ⟨left, st, G, hl, hok, hn, hrd, M, vc, hv, hvl, _⟩ := HJ
  have hrb2 := M.rbl
  simp only at hn
  obtain ⟨⟨t, s, rfl, htk, hsk⟩, hlen⟩ := hok
  obtain ⟨sb, cap, rest, fx, c0, rv, lv, fv, lc, fc, bs, f6, m1, m2, hg, hc0, hrest, q1, q3, q4, q5, q6, hfs, hnd, hGn, hsb, nbs⟩ := M.top
  obtain ⟨k, hk⟩ : ∃ k, k = s.length := ⟨_, rfl⟩
  obtain ⟨k1, hk1⟩ : ∃ k1, k1 = k + 1 := ⟨_, rfl⟩
  rw [← hk, ← hk1] at f6 m1
  rw [← hk] at hc0
  have e1 : (k1 : Int) - 1 = k := by omega
  have e2 : IntKind.i64.wrap (k : Int) = k := wrN (by simp at hlen; omega)
  have hq1 := q1
  obtain ⟨ra, rc, rfl, hrc1, hrc2⟩ := q1.slice
  have rd : ∀ j m, j + m ≤ 8 → acells E h ⟨sb, k * 8 + j, none⟩ m = some (([.int .i64 t.tag, .slice ra t.refs.length rc, .string t.name, .int .i64 t.tag, .int .i64 0, .string .empty, lv, fv].drop j).take m) := fun j m hjm => stk_read nbs hg hc0 rfl hjm
  have r0 := rd 0 1 (by omega)
  have r1 := rd 1 1 (by omega)
  have r2 := rd 2 1 (by omega)
  have r3 := rd 3 5 (by omega)
  simp only [push_cast, seval, hE.P, wpc_block, f6, e1, e2]
  rw [ia187 rfl (by omega) (by omega), kpure_some]
  simp only [push_cast, seval, hE.P, wpc_block, f6, e1, e2, ↓r0, ↓r1, ↓r2, ↓r3]
  refine kif_split (fun hb => ?_) (fun hb => ?_)
  · have hr0 : t.refs = [] := List.length_eq_zero_iff.1 (by simpa using hb)
    obtain ⟨la, lk, rfl, _⟩ := Own.slice q3
    obtain ⟨fa, fk, rfl, _⟩ := Own.slice q5
    have hasl := asl_top (b := sb) Tryz.underlying187 sz190 (k := k) (n := k1) (cap := cap) (by omega) (by omega) (by omega)
    have nb1 : (h0.next + 1 < E.base) = False := by have := hW.base; simp; omega
    have f7 := M.f7
    simp only [push_cast, seval, hE.P, wpc_block, f6, e1, e2, ↓r3, hv, hvl, nb1, f7, hasl, awrite]
    have hv5 : vc.drop 5 = [] := List.drop_eq_nil_of_le (by omega)
    rw [hv5]
    obtain ⟨d1, d2, d3, d4, d5, d6, d7⟩ := nd3 hnd
    obtain ⟨G1, sl1, sub1, fz1, new1⟩ := q3.add M.wf M.frz (fun b hb => hGn b (by simp [hb]))
    have hG1n : ∀ b, G b = none → b ∉ slB (.slice la t.l.length lk) → G1 b = none := fun b h1 h2 => by
      cases hc : G1 b with
      | none => rfl
      | some c => rcases new1 b c hc with h3 | h3
                  · rw [h1] at h3; cases h3
                  · exact absurd h3.1 h2
    obtain ⟨G2, sl2, sub2, fz2, new2⟩ := q5.add M.wf fz1 (fun b hb => hG1n b (hGn b (by simp [hb])) (fun h => (d3 b hb).1 h))
    have hG2n : ∀ b, G b = none → b ∉ slB (.slice la t.l.length lk) → b ∉ slB (.slice fa t.f.length fk) → G2 b = none := fun b h1 h2 h3 => by
      cases hc : G2 b with
      | none => rfl
      | some c => rcases new2 b c hc with h4 | h4
                  · rw [hG1n b h1 h2] at h4; cases h4
                  · exact absurd h4.1 h3
    have hdom2 : ∀ b c, G2 b = some c → h0.next + 3 ≤ b := fun b c hc => by
      rcases new2 b c hc with h4 | h4
      · rcases new1 b c h4 with h5 | h5
        · exact M.dom b c h5
        · exact h5.2
      · exact h4.2
    have hput : ∀ b o, b ≠ h0.next + 1 → h.get b = some o → (h.put (h0.next + 1) (AObj.cells [.int .i64 t.tag, .int .i64 0, .string .empty, .slice la t.l.length lk, .slice fa t.f.length fk] 25 true)).get b = some o := fun b o hb hg => by
      rw [get_put, if_neg (by omega)]; exact hg
    have hlv := hfs.live M.wf
    refine ⟨n - 1, by simp only [List.length_cons] at hn; omega, t.val, ?_⟩
    refine ⟨left, s, G2, hl, ⟨hsk, by simp at hlen; omega⟩, by simp only [List.length_cons] at hn ⊢; omega, fun r hh => hrd r (.go (left' := left) (st' := s) (p' := .done t.val) (by simp only [rstep]; rw [hr0]) hh), ?_, [.int .i64 t.tag, .int .i64 0, .string .empty, .slice la t.l.length lk, .slice fa t.f.length fk], by rw [get_put, if_pos rfl], rfl, ?_⟩
    · obtain ⟨oa, ob, oc, hob⟩ := M.ob
      refine ⟨M.rbl, M.wf.put hv, fz2.but fun b o hb hg => ?_, hdom2, ?_, by rw [next_put]; exact M.next, ?_, ?_, ?_, ?_, by simp only [push_cast, seval, hE.P, wpc_block, M.f0], by simp only [push_cast, seval, hE.P, wpc_block, M.f4], by simp only [push_cast, seval, hE.P, wpc_block, M.f7], by simp only [push_cast, seval, hE.P, wpc_block, M.f8]⟩
      · obtain ⟨cb, hcb⟩ := Option.isSome_iff_exists.1 hb
        have := hdom2 b cb hcb
        exact hput b o (by omega) hg
      · intro b o hb hg
        exact hput b o (by omega) (M.lo b o hb hg)
      · exact hput _ _ (by omega) M.rd
      · exact hput _ _ (by omega) M.res
      · exact ⟨oa, ob, oc, hput _ _ (by omega) hob⟩
      · refine ⟨.slice (some ⟨sb, 0, none⟩) k cap, c0, bs, by simp only [push_cast, seval, hE.P, wpc_block], .inr ⟨sb, cap, [.int .i64 t.tag, .slice ra t.refs.length rc, .string t.name, .int .i64 t.tag, .int .i64 0, .string .empty, .slice la t.l.length lk, .slice fa t.f.length fk] ++ rest, fx, by rw [hk], hput _ _ (by omega) hg, by omega, by simp; omega, by omega, hsb, m2⟩, ?_, d1, ?_⟩
        · exact hfs.but (sub1.trans sub2) fun b o hb hg => hput b o (by have := hlv b hb; omega) hg
        · intro b hb
          have hb' : b = sb ∨ b ∈ bs := by simpa [slB] using hb
          rcases hb' with rfl | hm
          · exact hG2n _ (hGn _ (by simp)) (fun h => (d2 _ h).2.1 rfl) (fun h => (d3 _ h).2.1 rfl)
          · exact hG2n b (hGn b (by simp [hm])) (fun h => (d2 b h).2.2 hm) (fun h => (d3 b h).2.2 hm)
    · simp only [Fm.val]
      unfold Rep
      exact ⟨_, _, lc, fc, rfl, sl1.sub sub2, sl2, RepLs.sub (sub1.trans sub2) q4, RepFs.sub (sub1.trans sub2) q6, by simp; have := htk.2.2.2.2; simp only [Fm.n] at this; omega, by have := htk.1; omega, by omega⟩
  · have hrne : t.refs.length ≠ 0 := by simpa using hb
    rw [Nat.add_zero] at r0
    obtain ⟨y0, r1', hrefs⟩ : ∃ y r, t.refs = y :: r := by
      cases hc : t.refs with
      | nil => rw [hc] at hrne; simp at hrne
      | cons y r => exact ⟨y, r, rfl⟩
    have hp0 : 0 < t.refs.length := by omega
    obtain ⟨a0, n0', he0, hsp0, hac0⟩ := hq1.elem M.frz hp0
    injection he0 with he1 he2 he3
    subst he1; subst he3
    rw [u64s_at hp0, Nat.zero_mul, Nat.add_zero] at hac0
    have hy0 : t.refs[0] = y0 := by simp [hrefs]
    rw [hy0] at hac0
    simp only [push_cast, seval, hE.P, wpc_block, ↓r0]
    refine kif_cutS (fun tm' h' => ∃ t' y r2 sb cap, RdM E L O h0 rb left (t' :: s) G tm' h' ∧ t'.refs = y :: r2 ∧ rstep O left (t :: s) .next = .inr (left, { t' with refs := r2 } :: s, .obj y) ∧ fget tm' 6 = .slice (some ⟨sb, 0, none⟩) k1 cap ∧ fget tm' 9 = .pointer (some ⟨sb, k * 8, none⟩) ∧
      h'.get (h0.next + 1) = some (.cells vc 25 true)) ?_ ?_
    rotate_left
    · refine kif_split (fun hb2 => ?_) (fun hb2 => ?_)
      · have ht6 : t.tag = 6 := by have := eq_of_beq hb2; omega
        have f0 := M.f0
        simp only [push_cast, seval, hE.P, wpc_block, f0, ↓r1]
        have hy64 : y0 < 18446744073709551616 := htk.2.2.1 y0 (by rw [hrefs]; simp)
        rw [ia50 hsp0 (by omega) (by omega), kpure_some]
        simp only [push_cast, seval, hE.P, wpc_block, f0, ↓r1, ↓hac0]
        refine (name_at hE (M.kept H hrb) M.wf M.rd hy64).mono ?_
        rintro v h1 ⟨rfl, kk1, w1⟩
        obtain ⟨nm, hnm⟩ : ∃ nm, nm = (nameO (obj O y0)).1 := ⟨_, rfl⟩
        obtain ⟨er, her⟩ : ∃ er, er = (nameO (obj O y0)).2 := ⟨_, rfl⟩
        rw [← hnm, ← her]
        have hg1 := kk1.get _ _ hg
        have wr2 := stk_write (vs := [.string nm]) (j := 2) hg1 hc0 rfl (by simp) rfl
        simp only [push_cast, seval, hE.P, wpc_block, f0, wr2]
        have MS := fun {tm'} f6' f0' f4' f7' f8' => M.setTop kk1 w1 (by omega) m2 hg (by omega) (by omega) q3 q4 q5 q6 hfs hnd hGn hsb (nm' := nm) hq1 (tm' := tm') f6' f0' f4' f7' f8'
        have gS : (h1.put sb (.cells (c0 ++ ([.int .i64 t.tag, .slice (some a0) t.refs.length rc, .string nm, .int .i64 t.tag, .int .i64 0, .string .empty, lv, fv] ++ rest)) 190 fx)).get sb = some (.cells (c0 ++ ([.int .i64 t.tag, .slice (some a0) t.refs.length rc, .string nm, .int .i64 t.tag, .int .i64 0, .string .empty, lv, fv] ++ rest)) 190 fx) := by rw [get_put, if_pos rfl]
        obtain ⟨hS, hhS⟩ : ∃ hS, hS = h1.put sb (.cells (c0 ++ ([.int .i64 t.tag, .slice (some a0) t.refs.length rc, .string nm, .int .i64 t.tag, .int .i64 0, .string .empty, lv, fv] ++ rest)) 190 fx) := ⟨_, rfl⟩
        have hv1 : hS.get (h0.next + 1) = some (.cells vc 25 true) := by rw [hhS, get_put, if_neg (by omega)]; exact kk1.get _ _ hv
        rw [← hhS] at MS gS
        simp only [List.cons_append, List.nil_append] at hhS
        rw [← hhS]
        refine kif_split (fun hb3 => ?_) (fun hb3 => ?_)
        · have hne : er ≠ 0 := by simpa using hb3
          have f4 := M.f4
          have M2 := MS (tm' := tm) (by rw [← hk, ← hk1]; exact f6) M.f0 M.f4 M.f7 M.f8
          have gr := M2.res
          have nb0 : (h0.next < E.base) = False := by have := hW.base; simp; omega
          simp only [push_cast, seval, hE.P, wpc_block, f4, gr, nb0, awrite]
          exact M2.endo (hrd _ (.fin (by simp only [rstep, hrefs]; rw [if_pos ht6, if_pos (by rw [← her]; exact hne), her]))) rep_zero
        · have her0 : er = 0 := by simpa using hb3
          have f6' : fget tm 6 = .slice (some ⟨sb, 0, none⟩) (s.length + 1) cap := by rw [← hk, ← hk1]; exact f6
          obtain ⟨y1, hsl1, hsl2⟩ := sl_tail hE (n := y0) (ws := r1') (m := t.refs.length) (by rw [hrefs]; simp) hsp0 (by rw [← hrefs]; exact hq1)
          have r1S := stk_read (j := 1) (m := 1) nbs gS hc0 rfl (by omega)
          have wr1 := stk_write (vs := [y1]) (j := 1) gS hc0 rfl (by simp) (by obtain ⟨_, _, e, _⟩ := hsl2; rw [e]; rfl)
          obtain ⟨ya, yc, rfl, _, _⟩ := hsl2.slice
          simp only [push_cast, seval, hE.P, wpc_block, f6, ↓r1S, hsl1, wr1]
          obtain ⟨y2, r2, hr2⟩ : ∃ y r, r1' = y :: r := by
            cases hc : r1' with
            | nil => have := htk.2.1 ht6; rw [hrefs, hc] at this; simp at this
            | cons y r => exact ⟨y, r, rfl⟩
          have hput : hS.put sb (.cells (c0 ++ .int .i64 t.tag :: .slice ya r1'.length yc :: .string nm :: .int .i64 t.tag :: .int .i64 0 :: .string .empty :: lv :: fv :: rest) 190 fx) = h1.put sb (.cells (c0 ++ ([.int .i64 t.tag, .slice ya r1'.length yc, .string nm, .int .i64 t.tag, .int .i64 0, .string .empty, lv, fv] ++ rest)) 190 fx) := by
            rw [hhS, put_put]; rfl
          rw [hput]
          refine ⟨{ t with refs := r1', name := nm }, y2, r2, sb, cap, M.setTop kk1 w1 (by omega) m2 hg (by omega) (by omega) q3 q4 q5 q6 hfs hnd hGn hsb hsl2 (by rw [← hk, ← hk1]; simp only [push_cast, seval, hE.P, wpc_block, f6]) (by simp only [push_cast, seval, hE.P, wpc_block, M.f0]) (by simp only [push_cast, seval, hE.P, wpc_block, M.f4]) (by simp only [push_cast, seval, hE.P, wpc_block, M.f7]) (by simp only [push_cast, seval, hE.P, wpc_block, M.f8]), hr2, ?_, rfl, rfl, ?_⟩
          · simp only [rstep, hrefs]
            rw [if_pos ht6, if_neg (by rw [← her]; simpa using her0), hr2, ← hnm]
          · rw [if_neg (by omega)]; exact hv1
      · have ht6 : t.tag ≠ 6 := by intro e; rw [e] at hb2; simp at hb2
        simp only [push_cast, seval, hE.P, wpc_block, f6]
        refine ⟨t, y0, r1', sb, cap, ?_, hrefs, ?_, rfl, rfl, hv⟩
        · refine ⟨M.rbl, M.wf, M.frz, M.dom, M.lo, M.next, M.rd, M.res, M.ob, ?_, by simp only [push_cast, seval, hE.P, wpc_block, M.f0], by simp only [push_cast, seval, hE.P, wpc_block, M.f4], by simp only [push_cast, seval, hE.P, wpc_block, M.f7], by simp only [push_cast, seval, hE.P, wpc_block, M.f8]⟩
          obtain ⟨sv, cs, bs', g6, g⟩ := M.stk
          exact ⟨sv, cs, bs', by simp only [push_cast, seval, hE.P, wpc_block, g6], g⟩
        · simp only [rstep, hrefs]
          rw [if_neg ht6]
    · clear f6 hg r0 r1 r2 r3 hac0 M hv
      rintro tm h ⟨t', y, r2, sb, cap, M, hrf, hst, f6, f9, hv⟩
      obtain ⟨sb', cap', rest', fx', c0', rv', lv', fv', lc', fc', bs', f6', m1', m2', hg', hc0', hrest', q1', q3', q4', q5', q6', hfs', hnd', hGn', hsb', nbs'⟩ := M.top
      rw [f6] at f6'
      injection f6' with f61 f62 f63
      injection f61 with f61
      injection f61 with f61
      subst f61; subst f63
      rw [← hk] at hc0'
      have hp0' : 0 < t'.refs.length := by rw [hrf]; simp
      obtain ⟨a1, n1, he1, hsp1, hac1⟩ := q1'.elem M.frz hp0'
      subst he1
      rw [u64s_at hp0', Nat.zero_mul, Nat.add_zero] at hac1
      have hy1 : t'.refs[0] = y := by simp [hrf]
      rw [hy1] at hac1
      obtain ⟨y3, hsl3, hsl4⟩ := sl_tail hE (n := y) (ws := r2) (m := t'.refs.length) (by rw [hrf]; simp) hsp1 (by rw [← hrf]; exact q1')
      have r1T := stk_read (j := 1) (m := 1) nbs' hg' hc0' rfl (by omega)
      have wr3 := stk_write (vs := [y3]) (j := 1) hg' hc0' rfl (by simp) (by obtain ⟨_, _, e, _⟩ := hsl4; rw [e]; rfl)
      have hl4 := hsl4
      obtain ⟨yb, yd, rfl, _, _⟩ := hsl4.slice
      simp only [push_cast, seval, hE.P, wpc_block, f9, ↓r1T]
      rw [ia50 hsp1 (by omega) (by omega), kpure_some]
      simp only [push_cast, seval, hE.P, wpc_block, f9, ↓r1T, ↓hac1, hsl3, wr3]
      have hput : h.put sb (.cells (c0' ++ .int .i64 t'.tag :: .slice yb r2.length yd :: .string t'.name :: .int .i64 t'.tag :: .int .i64 0 :: .string .empty :: lv' :: fv' :: rest') 190 fx') = h.put sb (.cells (c0' ++ ([.int .i64 t'.tag, .slice yb r2.length yd, .string t'.name, .int .i64 t'.tag, .int .i64 0, .string .empty, lv', fv'] ++ rest')) 190 fx') := rfl
      rw [hput]
      have hok2 : OkSt ({ t' with refs := r2 } :: s) (.obj y) := OkSt.step H.okO hst ⟨⟨t, s, rfl, htk, hsk⟩, hlen⟩
      refine ⟨n - 1, by simp only [List.length_cons] at hn; omega, y, ?_⟩
      refine ⟨left, _, G, hl, hok2, by simp only [List.length_cons] at hn ⊢; omega, fun r hh => hrd r (.go hst hh), M.setTop (Keep.refl h) M.wf (by omega) m2' hg' (by omega) (by omega) q3' q4' q5' q6' hfs' hnd' hGn' hsb' hl4 (by rw [← hk, ← hk1]; simp only [push_cast, seval, hE.P, wpc_block, f6]) (by simp only [push_cast, seval, hE.P, wpc_block, M.f0]) (by simp only [push_cast, seval, hE.P, wpc_block, M.f4]) (by simp only [push_cast, seval, hE.P, wpc_block, M.f7]) (by simp only [push_cast, seval, hE.P, wpc_block, M.f8]), vc, ?_, hvl, by simp only [push_cast, seval, hE.P, wpc_block]⟩
      rw [get_put, if_neg (by omega)]; exact hv
end Go.Proofs.YthfopcdammlmfaaGreatDoor
