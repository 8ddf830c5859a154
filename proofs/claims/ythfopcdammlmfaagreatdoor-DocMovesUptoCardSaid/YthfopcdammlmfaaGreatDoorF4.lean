/- The reference's Good. -/
/- Merged by a program of ours: G6 G7. -/
import Derived.Test.YthfopcdammlmfaaGreatDoorF3
set_option maxRecDepth 10000
set_option linter.all false
set_option linter.unusedSimpArgs false
set_option linter.unusedVariables false
/- The reference's bytes of a value. -/
namespace Go.Proofs.YthfopcdammlmfaaGreatDoor
open Go.Tm
theorem kwv_ownO {E : Env} {h : Heap} {t e e' by_ lo lo' n m : Nat} {cs xs : List Value} {v x : Value} {d : Option Nat} {R : Cont} {tm : Tr Value} (T : Elem E t e 1 by_) (hW : WF E h) (hlo : lo ≤ h.next) (H : Own h e 1 lo n cs v)
 (Hx : Own h e' 1 lo' m xs x) (hl : xs.length = m) (ho : xs.all Value.oneCell' = true) (hb : (n + m) * by_ ≤ 140737488355328) (hn : n + m ≤ 9223372036854775807)
 (K : ∀ v' h', Own h' e 1 lo (n + m) (cs ++ xs) v' → KeepLo lo h h' → WF E h' → R (aput tm d v') h') : kwv (aappend E h t t v x) d R tm h := by
 obtain ⟨G', hs, hf, _⟩ := own_sl hW Hx
 exact kwv_ownS T hW hf hlo H hs (by omega) ho hb hn K
theorem ownCast {h : Heap} {e z lo n n' : Nat} {cs cs' : List Value} {v : Value} (H : Own h e z lo n cs v) (hn : n = n') (hc : cs = cs') : Own h e z lo n' cs' v := by subst hn; subst hc; exact H
theorem u8s_one (l : List Nat) : (u8s l).all Value.oneCell' = true := by
 rw [u8s, List.all_map, List.all_eq_true]; intro x _; rfl
theorem u8s_len (l : List Nat) : (u8s l).length = l.length := by simp [u8s]
variable {E : Env} (hE : EOk E)
include hE
theorem bytesR_at : ∀ (n : Nat) (V : Vl), V.sz ≤ n → (bytesV V).length ≤ 1000000000000 → ∀ {G : Mem} {h : Heap}, WF E h → Frz E G h → ∀ {c : List Value}, Rep E G V c →
 CallsTo E 34 [.agg c.toArray] h fun v h' => Own h' 5 1 h.next (bytesV V).length (u8s (bytesV V)) v ∧ Keep h h' ∧ WF E h' := by
 intro n
 induction n with
 | zero => intro V hn; have := sz_eq V; omega
 | succ n ih =>
   intro V hn hlen G h hW hG c hV
   have hbe := bytesV_eq V
   have hbl := congrArg List.length hbe
   obtain ⟨sl, sf, cl, cf, rfl, hsl, hsf, hl, hf, hb1, hb2, hb3⟩ := hV.cells
   obtain ⟨a2, cap2, rfl, _, _⟩ := hsl.slice
   obtain ⟨a3, cap3, rfl, _, _⟩ := hsf.slice
   refine en hE Tryz.func34 rfl rfl Tryz.ntmps34 rfl (by decide +kernel) (rs := [.tmp 2]) rfl ?_
   simp only [push_cast, seval, hE.P, zz, hW.nb, hW.nb0]
   have w0 : WF E (h.push (.cells [.int .i64 V.k, .int .i64 V.n, .string V.s, .slice a2 V.l.length cap2, .slice a3 V.f.length cap3] 25 true)) := hW.push _
   have g0 : (h.push (.cells [.int .i64 V.k, .int .i64 V.n, .string V.s, .slice a2 V.l.length cap2, .slice a3 V.f.length cap3] 25 true)).get h.next = some (.cells [.int .i64 V.k, .int .i64 V.n, .string V.s, .slice a2 V.l.length cap2, .slice a3 V.f.length cap3] 25 true) := by simp only [get_push, if_true]
   have k0 : Keep h (h.push (.cells [.int .i64 V.k, .int .i64 V.n, .string V.s, .slice a2 V.l.length cap2, .slice a3 V.f.length cap3] 25 true)) := (Keep.refl h).push hW
   have n0 : (h.push (.cells [.int .i64 V.k, .int .i64 V.n, .string V.s, .slice a2 V.l.length cap2, .slice a3 V.f.length cap3] 25 true)).next = h.next + 1 := by simp
   generalize h.push (.cells [.int .i64 V.k, .int .i64 V.n, .string V.s, .slice a2 V.l.length cap2, .slice a3 V.f.length cap3] 25 true) = H at *
   rw [bs66 rfl, kalloc_some, u8N_cast]
   have o1 : Own (H.push (.cells [.int .u8 ((u8N V.k : Nat) : Int)] 5 true)) 5 1 (h.next + 1) 1 (u8s [u8N V.k]) (.slice (some ⟨H.next, 0, none⟩) 1 1) := .inr ⟨H.next, 1, [], true, rfl, by simp [get_push, u8s], rfl, rfl, by omega, by omega, by omega⟩
   have w1 : WF E (H.push (.cells [.int .u8 ((u8N V.k : Nat) : Int)] 5 true)) := w0.push _
   have k1 : Keep H (H.push (.cells [.int .u8 ((u8N V.k : Nat) : Int)] 5 true)) := (Keep.refl H).push w0
   have x1 : vcells (.int .u8 ((u8N V.k : Nat) : Int)) = [.int .u8 ((u8N V.k : Nat) : Int)] := rfl
   rw [x1]
   generalize H.push (.cells [.int .u8 ((u8N V.k : Nat) : Int)] 5 true) = H1 at *
   generalize (Value.slice (some ⟨H.next, 0, none⟩) 1 1) = X3 at *
   have g1 := k1.get _ _ g0
   have nx1 := k1.next
   have k01 := k0.trans k1
   simp only [push_cast, seval, hE.P, zz, g1, hW.nb0]
   refine kif_cutN (fun tm h' => Own h' 5 1 (h.next + 1) (bytesV V).length (u8s (bytesV V)) (fget tm 3) ∧ Keep H h' ∧ WF E h') ?_ ?_
   ·rintro tm h' ⟨hown, hk, hw⟩
    obtain ⟨x3, f3⟩ : ∃ v, fget tm 3 = v := ⟨_, rfl⟩
    rw [f3] at hown
    simp only [push_cast, seval, hE.P, zz, f3]
    exact ⟨Own.low hown (by omega), k0.trans hk, hw⟩
   ·refine kif_split (fun hb => ?_) (fun hb => ?_)
    ·have hk : V.k = 2 := by simpa using hb
     rw [if_pos hk] at hbe hbl
     simp only [push_cast, seval, hE.P, zz, g1, hW.nb0]
     rw [u8N_cast, bs66 rfl, kalloc_some]
     simp only [push_cast, seval, hE.P, zz]
     refine kwv_own1 (el66 hE.P) w1 (lo := h.next + 1) (by omega) o1 rfl rfl (by omega) (by omega) ?_
     intro v' h2 hown2 hk2 hw2
     simp only [push_cast, seval, hE.P, zz]
     refine ⟨?_, Keep.thenLo w0 k1 hk2 (by omega), hw2⟩
     rw [hbe]; exact hown2
    have hk2 : V.k ≠ 2 := by simpa using hb
    rw [if_neg hk2] at hbe hbl
    simp only [push_cast, seval, hE.P, zz]
    refine kif_split (fun hb => ?_) (fun hb => ?_)
    ·have hk : V.k = 3 := by simpa using hb
     rw [if_pos hk] at hbe hbl
     simp only [List.length_cons] at hbl
     simp only [push_cast, seval, hE.P, zz, g1, hW.nb0]
     refine (zigR_at hE hb3.1 hb3.2).mono ?_
     rintro v h2 ⟨rfl, rfl⟩
     simp only [push_cast, seval, hE.P, zz]
     refine (varintR_at hE w1 (turned_lt hb3.1 hb3.2)).mono ?_
     rintro v h3 ⟨ho3, hk3, hw3⟩
     simp only [push_cast, seval, hE.P, zz]
     refine kwv_ownO (el66 hE.P) hw3 (lo := h.next + 1) (by have := hk3.next; omega) (o1.keep hk3) ho3 (u8s_len _) (u8s_one _) (by omega) (by omega) ?_
     intro v' h4 hown4 hk4 hw4
     simp only [push_cast, seval, hE.P, zz]
     refine ⟨?_, Keep.thenLo w0 (k1.trans hk3) hk4 (by omega), hw4⟩
     rw [hbe]; exact ownCast hown4 (by simp; omega) (by simp [u8s])
    have hk3 : V.k ≠ 3 := by simpa using hb
    rw [if_neg hk3] at hbe hbl
    simp only [push_cast, seval, hE.P, zz]
    refine kif_split (fun hb => ?_) (fun hb => ?_)
    ·have hk : V.k = 4 := by simpa using hb
     rw [if_pos hk] at hbe hbl
     simp only [List.length_cons, List.length_append, strB_len] at hbl
     simp only [push_cast, seval, hE.P, zz, g1, hW.nb0, wpc_draw]
     refine wdraw_pairs [(8, 5), (8, 6)] (by rw [hE.P]; decide +kernel) (by rw [hE.P]; decide +kernel) (by rw [hE.P]; decide +kernel) ?_
     simp only [push_cast, seval, hE.P, zz, g1, hW.nb0]
     rw [wru64 (by omega) (by omega)]
     refine (varintR_at hE w1 (by omega)).mono ?_
     rintro v h3 ⟨ho3, hk3, hw3⟩
     have g3 := hk3.get _ _ g1
     simp only [push_cast, seval, hE.P, zz]
     refine kwv_ownO (el66 hE.P) hw3 (lo := h.next + 1) (by have := hk3.next; omega) (o1.keep hk3) ho3 (u8s_len _) (u8s_one _) (by omega) (by omega) ?_
     intro v' h4 hown4 hk4 hw4
     have k4 := Keep.thenLo w0 (k1.trans hk3) hk4 (by omega)
     have g4 := k4.get _ _ g0
     simp only [push_cast, seval, hE.P, zz, g4, hW.nb0]
     refine kwv_ownT (el66 hE.P) (by rw [hE.P]; exact Tryz.underlying9) hw4 (lo := h.next + 1) (by have := k4.next; omega) hown4 (by omega) (by omega) ?_
     intro v'' h5 hown5 hk5 hw5
     have k5 := Keep.thenLo w0 k4 hk5 (by omega)
     have g5 := k5.get _ _ g0
     simp only [push_cast, seval, hE.P, zz, g1, g3, g4, g5, hW.nb0]
     refine ⟨?_, k5, hw5⟩
     rw [hbe]; exact ownCast hown5 (by simp [strB_len]; omega) (by simp [u8s])
    have hk4 : V.k ≠ 4 := by simpa using hb
    rw [if_neg hk4] at hbe hbl
    simp only [push_cast, seval, hE.P, zz]
    refine kif_split (fun hb => ?_) (fun hb => ?_)
    ·have hk : V.k = 5 := by simpa using hb
     rw [if_pos hk] at hbe hbl
     simp only [List.length_cons, List.length_append] at hbl
     simp only [push_cast, seval, hE.P, zz, g1, hW.nb0]
     rw [wru64 (by omega) (by omega)]
     refine (varintR_at hE w1 (by omega)).mono ?_
     rintro v h3 ⟨ho3, hk3, hw3⟩
     simp only [push_cast, seval, hE.P, zz]
     refine kwv_ownO (el66 hE.P) hw3 (lo := h.next + 1) (by have := hk3.next; omega) (o1.keep hk3) ho3 (u8s_len _) (u8s_one _) (by omega) (by omega) ?_
     intro v' h4 hown4 hk4 hw4
     have k4 := Keep.thenLo w0 (k1.trans hk3) hk4 (by omega)
     have g4 := k4.get _ _ g0
     simp only [push_cast, seval, hE.P, zz]
     refine wpc_loop (fun m tm h' => ∃ i : Nat, m = V.l.length - i ∧ i ≤ V.l.length ∧ fget tm 1 = .pointer (some ⟨h.next, 0, none⟩) ∧ fget tm 4 = .int .i64 i ∧
      Own h' 5 1 (h.next + 1) (1 + (varB V.l.length).length + (bytesL (V.l.take i)).length) (u8s (u8N V.k :: (varB V.l.length ++ bytesL (V.l.take i)))) (fget tm 3) ∧ Keep H h' ∧ WF E h') V.l.length ?_ ?_
     ·simp only [push_cast, seval, hE.P, zz]
      exact ⟨0, by omega, by omega, rfl, ownCast hown4 (by simp [bytesL]) (by simp [u8s, bytesL]), k4, hw4⟩
     ·rintro m tm h' ⟨i, rfl, hi, f1, f4, hown, hkeep, hw⟩
      obtain ⟨x3, f3⟩ : ∃ v, fget tm 3 = v := ⟨_, rfl⟩
      rw [f3] at hown
      have g5 := hkeep.get _ _ g0
      have nx5 := hkeep.next
      simp only [push_cast, seval, hE.P, zz, f1, f4, f3, g5, hW.nb0]
      refine kif_split (fun hb => ?_) (fun hb => ?_)
      ·have hlt : i < V.l.length := by simpa using hb
       have hle := bytesL_le hlt
       obtain ⟨b, c, e1, hsp, hac⟩ := hsl.elem (hG.keep (k0.trans hkeep)) hlt
       injection e1 with e1 e2 e3
       subst e1; subst e3
       have hrc := hl.at i V.l[i] (by simp [hlt])
       simp only [push_cast, seval, hE.P, zz, f1, f4, f3, g5, hW.nb0]
       rw [ia22 hsp (by omega) (by omega), kpure_some]
       simp only [push_cast, seval, hE.P, zz, f1, f4, f3, g5, hW.nb0, ↓hac]
       have hps := l_sz (v := V) (x := V.l[i]) (by simp)
       refine (ih V.l[i] (by omega) (by omega) hw (hG.keep (k0.trans hkeep)) hrc).mono ?_
       rintro v h5 ⟨ho5, hk5, hw5⟩
       simp only [push_cast, seval, hE.P, zz, f1, f4, f3]
       refine kwv_ownO (el66 hE.P) hw5 (lo := h.next + 1) (by have := hk5.next; omega) (hown.keep hk5) ho5 (u8s_len _) (u8s_one _) (by omega) (by omega) ?_
       intro v' h6 hown6 hk6 hw6
       simp only [push_cast, seval, hE.P, zz, f1, f4, f3]
       refine ⟨V.l.length - (i + 1), by omega, i + 1, rfl, by omega, by rw [wr64 (by omega) (by omega)]; rfl, ownCast hown6 (by rw [bytesL_take hlt, List.length_append]; omega) (by rw [bytesL_take hlt]; simp [u8s]), Keep.thenLo w0 (hkeep.trans hk5) hk6 (by omega), hw6⟩
      ·have hge : i = V.l.length := by have : ¬ i < V.l.length := by simpa using hb
                                       omega
       subst hge
       rw [List.take_length] at hown
       simp only [push_cast, seval, hE.P, zz, f1, f4, f3]
       refine ⟨?_, hkeep, hw⟩
       rw [hbe]; exact ownCast hown (by simp; omega) rfl
    have hk5 : V.k ≠ 5 := by simpa using hb
    rw [if_neg hk5] at hbe hbl
    simp only [push_cast, seval, hE.P, zz]
    refine kif_split (fun hb => ?_) (fun hb => ?_)
    ·have hk : V.k = 6 := by simpa using hb
     rw [if_pos hk] at hbe hbl
     simp only [List.length_cons, List.length_append] at hbl
     simp only [push_cast, seval, hE.P, zz, g1, hW.nb0]
     rw [wru64 (by omega) (by omega)]
     refine (varintR_at hE w1 (by omega)).mono ?_
     rintro v h3 ⟨ho3, hk3, hw3⟩
     simp only [push_cast, seval, hE.P, zz]
     refine kwv_ownO (el66 hE.P) hw3 (lo := h.next + 1) (by have := hk3.next; omega) (o1.keep hk3) ho3 (u8s_len _) (u8s_one _) (by omega) (by omega) ?_
     intro v' h4 hown4 hk4 hw4
     have k4 := Keep.thenLo w0 (k1.trans hk3) hk4 (by omega)
     have g4 := k4.get _ _ g0
     simp only [push_cast, seval, hE.P, zz]
     refine wpc_loop (fun m tm h' => ∃ i : Nat, m = V.f.length - i ∧ i ≤ V.f.length ∧ fget tm 1 = .pointer (some ⟨h.next, 0, none⟩) ∧ fget tm 5 = .int .i64 i ∧
      Own h' 5 1 (h.next + 1) (1 + (varB V.f.length).length + (bytesF (V.f.take i)).length) (u8s (u8N V.k :: (varB V.f.length ++ bytesF (V.f.take i)))) (fget tm 3) ∧ Keep H h' ∧ WF E h') V.f.length ?_ ?_
     ·simp only [push_cast, seval, hE.P, zz]
      exact ⟨0, by omega, by omega, rfl, ownCast hown4 (by simp [bytesF]) (by simp [u8s, bytesF]), k4, hw4⟩
     ·rintro m tm h' ⟨i, rfl, hi, f1, f5, hown, hkeep, hw⟩
      obtain ⟨x3, f3⟩ : ∃ v, fget tm 3 = v := ⟨_, rfl⟩
      rw [f3] at hown
      have g5 := hkeep.get _ _ g0
      have nx5 := hkeep.next
      simp only [push_cast, seval, hE.P, zz, f1, f5, f3, g5, hW.nb0]
      refine kif_split (fun hb => ?_) (fun hb => ?_)
      ·have hlt : i < V.f.length := by simpa using hb
       have hle := bytesF_le hlt
       have hg5 := hG.keep (k0.trans hkeep)
       obtain ⟨b, c, e1, hsp, hac⟩ := hsf.elem hg5 hlt
       injection e1 with e1 e2 e3
       subst e1; subst e3
       obtain ⟨c1, hc1, hrc, hnm⟩ := hf.at i V.f[i].1 V.f[i].2 (List.getElem?_eq_getElem hlt)
       rw [hc1] at hac
       have hread : ∀ hh, Keep H hh → acells E hh ⟨b.block, b.off + i * 6, none⟩ 1 = some [.string V.f[i].1] ∧ acells E hh ⟨b.block, b.off + i * 6 + 1, none⟩ 5 = some c1 := by
        intro hh kk
        obtain ⟨b', c', e1', hsp', hac'⟩ := hsf.elem (hG.keep (k0.trans kk)) hlt
        injection e1' with e1' e2' e3'
        injection e1' with e1'
        subst e1'; subst e3'
        rw [hc1] at hac'
        have n1 := acells_part hac' 0 1 (by omega)
        have n2 := acells_part hac' 1 5 (by omega)
        have lc := hrc.len
        simp only [Nat.add_zero, List.drop_zero, List.take_succ_cons, List.take_zero, List.drop_succ_cons] at n1 n2
        rw [List.take_of_length_le (by omega)] at n2
        exact ⟨n1, n2⟩
       have n1 := (hread _ hkeep).1
       simp only [push_cast, seval, hE.P, zz, wpc_draw]
       refine wdraw_pairs [(12, 9), (12, 10), (16, 9), (16, 10)] (by rw [hE.P]; decide +kernel) (by rw [hE.P]; decide +kernel) (by rw [hE.P]; decide +kernel) ?_
       simp only [push_cast, seval, hE.P, zz, f1, f5, f3, g5, hW.nb0]
       rw [ia23 hsp (by omega) (by omega), kpure_some]
       simp only [push_cast, seval, hE.P, zz, f1, f5, f3, g5, hW.nb0, ↓n1]
       rw [wru64 (by omega) (by omega)]
       refine (varintR_at hE hw (by omega)).mono ?_
       rintro v h6 ⟨ho6, hk6, hw6⟩
       have g6 := hk6.get _ _ g5
       have kk6 := hkeep.trans hk6
       simp only [push_cast, seval, hE.P, zz, f1, f5, f3]
       refine kwv_ownO (el66 hE.P) hw6 (lo := h.next + 1) (by have := hk6.next; omega) (hown.keep hk6) ho6 (u8s_len _) (u8s_one _) (by omega) (by omega) ?_
       intro v' h7 hown7 hk7 hw7
       have kk7 := Keep.thenLo w0 kk6 hk7 (by omega)
       have g7 := kk7.get _ _ g0
       have n6 := (hread _ kk6).1
       have n7 := (hread _ kk7).1
       simp only [push_cast, seval, hE.P, zz, f1, f5, f3, g7, hW.nb0]
       rw [ia23 hsp (by omega) (by omega), kpure_some]
       simp only [push_cast, seval, hE.P, zz, f1, f5, f3, g7, hW.nb0, ↓n7]
       refine kwv_ownT (el66 hE.P) (by rw [hE.P]; exact Tryz.underlying9) hw7 (lo := h.next + 1) (by have := kk7.next; omega) hown7 (by omega) (by omega) ?_
       intro v8 h8 hown8 hk8 hw8
       have kk8 := Keep.thenLo w0 kk7 hk8 (by omega)
       have g8 := kk8.get _ _ g0
       have n8 := (hread _ kk8).2
       simp only [push_cast, seval, hE.P, zz, f1, f5, f3, g5, g6, g7, g8, hW.nb0, ↓n1, ↓n6, ↓n7]
       rw [ia23 hsp (by omega) (by omega), kpure_some]
       simp only [push_cast, seval, hE.P, zz, f1, f5, f3, g8, hW.nb0, ↓n8]
       have hps := f_sz (v := V) (x := V.f[i]) (by simp)
       refine (ih V.f[i].2 (by omega) (by omega) hw8 (hG.keep (k0.trans kk8)) hrc).mono ?_
       rintro v h9 ⟨ho9, hk9, hw9⟩
       simp only [push_cast, seval, hE.P, zz, f1, f5, f3]
       refine kwv_ownO (el66 hE.P) hw9 (lo := h.next + 1) (by have := (kk8.trans hk9).next; omega) (hown8.keep hk9) ho9 (u8s_len _) (u8s_one _) (by omega) (by omega) ?_
       intro v10 h10 hown10 hk10 hw10
       simp only [push_cast, seval, hE.P, zz, f1, f5, f3]
       refine ⟨V.f.length - (i + 1), by omega, i + 1, rfl, by omega, by rw [wr64 (by omega) (by omega)]; rfl, ownCast hown10 (by rw [bytesF_take hlt]; simp only [List.length_append, strB_len]; omega) (by rw [bytesF_take hlt]; simp [u8s]), Keep.thenLo w0 (kk8.trans hk9) hk10 (by omega), hw10⟩
      ·have hge : i = V.f.length := by have : ¬ i < V.f.length := by simpa using hb
                                       omega
       subst hge
       rw [List.take_length] at hown
       simp only [push_cast, seval, hE.P, zz, f1, f5, f3]
       refine ⟨?_, hkeep, hw⟩
       rw [hbe]; exact ownCast hown (by simp; omega) rfl
    have hk6 : V.k ≠ 6 := by simpa using hb
    rw [if_neg hk6] at hbe hbl
    simp only [push_cast, seval, hE.P, zz]
    refine ⟨?_, k1, w1⟩
    rw [hbe]; exact o1
end Go.Proofs.YthfopcdammlmfaaGreatDoor
namespace Go.Proofs.YthfopcdammlmfaaGreatDoor
open Go.Tm
variable {E : Env} (hE : EOk E)
include hE
theorem goodR_at {V : Vl} (hz : V.sz ≤ 10000) (hsm : allV smallV V = true) (hbl : (bytesV V).length ≤ 1000000000000) {G : Mem} {h : Heap} (hW : WF E h) (hG : Frz E G h) {c : List Value} (hV : Rep E G V c) : CallsTo E 11 [.agg c.toArray] h fun v h' => v = .int .i64 (goodV V) ∧ Keep h h' ∧ WF E h' := by
 obtain ⟨sl, sf, cl, cf, rfl, hsl, hsf, hl, hf, hb1, hb2, hb3⟩ := hV.cells
 refine en hE Tryz.func11 rfl rfl Tryz.ntmps11 rfl (by decide +kernel) (rs := [.tmp 2]) rfl ?_
 simp only [push_cast, seval, hE.P, zz, hW.nb, hW.nb0]
 have g0 : (h.push (.cells [.int .i64 V.k, .int .i64 V.n, .string V.s, sl, sf] 25 true)).get h.next = some (.cells [.int .i64 V.k, .int .i64 V.n, .string V.s, sl, sf] 25 true) := by simp only [get_push, if_true]
 have k0 : Keep h (h.push (.cells [.int .i64 V.k, .int .i64 V.n, .string V.s, sl, sf] 25 true)) := (Keep.refl h).push hW
 have w0 : WF E (h.push (.cells [.int .i64 V.k, .int .i64 V.n, .string V.s, sl, sf] 25 true)) := hW.push _
 generalize h.push (.cells [.int .i64 V.k, .int .i64 V.n, .string V.s, sl, sf] 25 true) = H at *
 refine (shapeR_at hE V.sz V (Nat.le_refl _) w0 (hG.keep k0) hV).mono ?_
 rintro v h1 ⟨rfl, k1', w1⟩
 have g1 := k1'.get _ _ g0
 have k1 := k0.trans k1'
 simp only [push_cast, seval, hE.P, zz]
 refine kif_split (fun hb1 => ?_) (fun hb1 => ?_)
 ·have e1 : allV formedV V = false := by simpa using hb1
  simp only [push_cast, seval, hE.P, zz]
  exact ⟨by rw [goodV, if_pos e1], k1, w1⟩
 have e1 : ¬ allV formedV V = false := by simpa using hb1
 simp only [push_cast, seval, hE.P, zz, g1, hW.nb0]
 refine (textsR_at hE V.sz V (Nat.le_refl _) hsm w1 (hG.keep k1) hV).mono ?_
 rintro v h2 ⟨rfl, k2, w2⟩
 have g2 := k2.get _ _ g1
 replace k2 := k1.trans k2
 simp only [push_cast, seval, hE.P, zz]
 refine kif_split (fun hb2 => ?_) (fun hb2 => ?_)
 ·have e2 : allV spelledV V = false := by simpa using hb2
  simp only [push_cast, seval, hE.P, zz]
  exact ⟨by rw [goodV, if_neg e1, if_pos e2], k2, w2⟩
 have e2 : ¬ allV spelledV V = false := by simpa using hb2
 simp only [push_cast, seval, hE.P, zz, g2, hW.nb0]
 refine (fewR_at hE V.sz V (Nat.le_refl _) w2 (hG.keep k2) hV).mono ?_
 rintro v h3 ⟨rfl, k3, w3⟩
 have g3 := k3.get _ _ g2
 replace k3 := k2.trans k3
 simp only [push_cast, seval, hE.P, zz]
 refine kif_split (fun hb3 => ?_) (fun hb3 => ?_)
 ·have e3 : allV fewV V = false := by simpa using hb3
  simp only [push_cast, seval, hE.P, zz]
  exact ⟨by rw [goodV, if_neg e1, if_neg e2, if_pos e3], k3, w3⟩
 have e3 : ¬ allV fewV V = false := by simpa using hb3
 simp only [push_cast, seval, hE.P, zz, g3, hW.nb0]
 refine (depthR_at hE V.sz V (Nat.le_refl _) (by omega) w3 (hG.keep k3) hV).mono ?_
 rintro v h4 ⟨rfl, k4, w4⟩
 have g4 := k4.get _ _ g3
 replace k4 := k3.trans k4
 simp only [push_cast, seval, hE.P, zz]
 refine kif_split (fun hb4 => ?_) (fun hb4 => ?_)
 ·have e4 : depthV V > 8 := by simpa using hb4
  simp only [push_cast, seval, hE.P, zz]
  exact ⟨by rw [goodV, if_neg e1, if_neg e2, if_neg e3, if_pos e4], k4, w4⟩
 have e4 : ¬ depthV V > 8 := by simpa using hb4
 simp only [push_cast, seval, hE.P, zz, g4, hW.nb0]
 refine (bytesR_at hE V.sz V (Nat.le_refl _) hbl w4 (hG.keep k4) hV).mono ?_
 rintro v h5 ⟨ho5, k5, w5⟩
 obtain ⟨a5, c5, rfl, _⟩ := Own.slice ho5
 have hbz := bytesV_len V.sz V (Nat.le_refl _)
 replace k5 := k4.trans k5
 simp only [push_cast, seval, hE.P, zz]
 rw [hbz]
 refine kif_split (fun hb5 => ?_) (fun hb5 => ?_)
 ·have e5 : sizeV V > 2048 := by simpa using hb5
  simp only [push_cast, seval, hE.P, zz]
  exact ⟨by rw [goodV, if_neg e1, if_neg e2, if_neg e3, if_neg e4, if_pos e5], k5, w5⟩
 have e5 : ¬ sizeV V > 2048 := by simpa using hb5
 simp only [push_cast, seval, hE.P, zz]
 exact ⟨by rw [goodV, if_neg e1, if_neg e2, if_neg e3, if_neg e4, if_neg e5], k5, w5⟩
end Go.Proofs.YthfopcdammlmfaaGreatDoor
