/- The law DocMoves: its memory. -/
import Derived.Test.YthfopcdammlmfaaGreatDoorK6
import Derived.Test.YthfopcdammlmfaaGreatDoorB3
import Derived.Test.YthfopcdammlmfaaGreatDoorF4
set_option maxRecDepth 10000
set_option linter.all false
set_option linter.unusedSimpArgs false
set_option linter.unusedVariables false
namespace Go.Proofs.YthfopcdammlmfaaGreatDoor
open Go.Tm
theorem andi_mask (n : Int) (k : Nat) (hk : k ≤ 62) : bits .and .i64 n ((2 ^ k - 1 : Nat) : Int) = n % ((2 ^ k : Nat) : Int) := by
 have h2 : (2 : Nat) ^ k ≤ 2 ^ 62 := Nat.pow_le_pow_right (by omega) hk
 have h127 : (BitVec.ofInt 64 ((2 ^ k - 1 : Nat) : Int)).toNat = 2 ^ k - 1 := by
  rw [BitVec.toNat_ofInt]
  have : (2 : Nat) ^ 62 < 2 ^ 64 := by decide
  have hp : 0 < (2 : Nat) ^ k := Nat.two_pow_pos k
  omega
 have key : (BitVec.ofInt 64 n &&& BitVec.ofInt 64 ((2 ^ k - 1 : Nat) : Int)).toNat = (n % ((2 ^ 64 : Nat) : Int)).toNat % 2 ^ k := by
  rw [BitVec.toNat_and, BitVec.toNat_ofInt, h127, Nat.and_two_pow_sub_one_eq_mod]
 show IntKind.i64.wrap ((BitVec.ofInt 64 n &&& BitVec.ofInt 64 ((2 ^ k - 1 : Nat) : Int)).toNat : Nat) = _
 have hd : ((2 ^ k : Nat) : Int) ∣ ((2 ^ 64 : Nat) : Int) := Int.natCast_dvd_natCast.2 (Nat.pow_dvd_pow 2 (by omega))
 have hm : 0 ≤ n % ((2 ^ 64 : Nat) : Int) := Int.emod_nonneg _ (by decide)
 have e1 : (((n % ((2 ^ 64 : Nat) : Int)).toNat % 2 ^ k : Nat) : Int) = n % ((2 ^ k : Nat) : Int) := by
  rw [Int.natCast_emod, Int.toNat_of_nonneg hm, Int.emod_emod_of_dvd _ hd]
 rw [key, e1, wr64]
 ·exact Int.le_trans (by decide) (Int.emod_nonneg _ (by have := Nat.two_pow_pos k; omega))
 ·have := Int.emod_lt_of_pos n (b := ((2 ^ k : Nat) : Int)) (by have := Nat.two_pow_pos k; omega)
  have : (2 : Nat) ^ 62 = 4611686018427387904 := by decide
  omega
theorem andi15 (n : Int) : bits .and .i64 n 15 = n % 16 := andi_mask n 4 (by omega)
structure Lm (E : Env) (G : Mem) (h0 : Heap) (L : HL) (cb mb : Nat) (sv : Value) (H : List Hd1) (va vh : Value) (h' : Heap) : Prop where
 wf : WF E h'
 kl : KeepLo h0.next h0 h'
 lx : ∀ b, XC L cb mb sv b → h0.next ≤ b
 oa : Own h' 33 1 h0.next H.length (u64s (H.map (·.x))) va
 oh : ∃ ch, Own h' 25 5 h0.next H.length ch vh ∧ RepLs E G (H.map (·.V)) ch
 da : ∀ b, b ∈ slB va → ¬ XC L cb mb sv b ∧ b ∉ slB vh
 dh : ∀ b, b ∈ slB vh → ¬ XC L cb mb sv b
section
variable {E : Env} {G : Mem} {h0 h1 h2 : Heap} {L : HL} {cb mb : Nat} {sv sv' : Value} {H : List Hd1} {va vh : Value}
theorem Lm.x (m : Lm E G h0 L cb mb sv H va vh h1) (kx : KX (XC L cb mb sv) h1 h2) (hb : ∀ j, j ∈ slB sv' → j ∈ slB sv ∨ h1.next ≤ j) (w2 : WF E h2) : Lm E G h0 L cb mb sv' H va vh h2 := by
 obtain ⟨ch, hoh, hrl⟩ := m.oh
 have hl := m.kl.next
 have la := m.oa.lt m.wf
 have lh := hoh.lt m.wf
 refine ⟨w2, ⟨fun b o hb hg => kx.get b o (fun hx => by have := m.lx b hx; omega) (m.kl.get b o hb hg), by have := kx.next; omega⟩, fun b hx => ?_, m.oa.but fun b o hb hg => kx.get b o (m.da b hb).1 hg, ⟨ch, hoh.but fun b o hb hg => kx.get b o (m.dh b hb) hg, hrl⟩, fun b hb' => ⟨fun hx => ?_, (m.da b hb').2⟩, fun b hb' hx => ?_⟩
 ·rcases XC.back hb b hx with h | h
  ·exact m.lx b h
  ·omega
 ·rcases XC.back hb b hx with h | h
  ·exact (m.da b hb').1 h
  ·have := (la b hb').2; omega
 ·rcases XC.back hb b hx with h | h
  ·exact m.dh b hb' h
  ·have := (lh b hb').2; omega
theorem Lm.b (m : Lm E G h0 L cb mb sv H va vh h1) (k : KeepB L h1 h2) (w2 : WF E h2) : Lm E G h0 L cb mb sv H va vh h2 := m.x (k.x fun b hb => .inl hb) (fun j hj => .inl hj) w2
theorem Lm.keep (m : Lm E G h0 L cb mb sv H va vh h1) (k : Keep h1 h2) (w2 : WF E h2) : Lm E G h0 L cb mb sv H va vh h2 := m.b (k.b L) w2
theorem Lm.frz (m : Lm E G h0 L cb mb sv H va vh h1) (hW : WF E h0) (hG : Frz E G h0) : Frz E G h1 := fun b c hb => by
 obtain ⟨e, fx, hh⟩ := hG b c hb
 exact ⟨e, fx, m.kl.get _ _ (hW.live _ _ hh).2 hh⟩
theorem Lm.sep (m : Lm E G h0 L cb mb sv H va vh h1) (hW : WF E h0) (hG : Frz E G h0) : Sep L G := fun b hb => by
 cases hc : G b with
 | none => rfl
 | some c =>
   obtain ⟨e, fx, hh⟩ := hG b c hc
   have := (hW.live _ _ hh).2
   have := m.lx b (.inl hb)
   omega
end
theorem GS.xlt {E : Env} {h : Heap} {L : HL} {cb mb lo0 ph : Nat} {lo hi : List Cl} {p : Ms} {rt : List Nat} {T n : Nat} {sv : Value} {S : HS} (g : GS E h L cb mb lo0 ph lo hi p rt T n sv S) (hW : WF E h) : ∀ b, XC L cb mb sv b → b < h.next := by
 intro b hb
 obtain ⟨r, v, gc⟩ := g.c.get
 rcases hb with h1 | h1 | h1 | h1
 ·exact (g.H.ltB hW b h1).2
 ·subst h1; exact (hW.live _ _ g.m.get).2
 ·subst h1; exact (hW.live _ _ gc).2
 ·exact (g.m.own.lt hW b h1).2
theorem Lm.push {E : Env} {G : Mem} {h0 h6 h7 h8 : Heap} {L : HL} {cb mb : Nat} {sv : Value} {H : List Hd1} {va vh va' vh' : Value} {e : Hd1} {c5 ch : List Value} (m : Lm E G h0 L cb mb sv H va vh h6) (hx : ∀ b, XC L cb mb sv b → b < h6.next) (hc : Rep E G e.V c5) (hrl : RepLs E G (H.map (·.V)) ch)
 (lh : ∀ b, b ∈ slB vh → h0.next ≤ b ∧ b < h6.next)
 (b7 : ∀ b o, h6.get b = some o → b ∉ slB vh → h7.get b = some o) (s7 : ∀ b, b ∈ slB vh' → b ∈ slB vh ∨ h6.next ≤ b) (n7 : h6.next ≤ h7.next) (w7 : WF E h7) (o7 : Own h7 25 5 h0.next (H.length + 1) (ch ++ c5) vh')
 (b8 : ∀ b o, h7.get b = some o → b ∉ slB va → h8.get b = some o) (s8 : ∀ b, b ∈ slB va' → b ∈ slB va ∨ h7.next ≤ b) (n8 : h7.next ≤ h8.next) (w8 : WF E h8) (o8 : Own h8 33 1 h0.next (H.length + 1) (u64s (H.map (·.x)) ++ [.int .u64 (e.x : Nat)]) va') :
 Lm E G h0 L cb mb sv (H ++ [e]) va' vh' h8 ∧ KX (fun b => b ∈ slB vh ∨ b ∈ slB va) h6 h8 := by
 have la := m.oa.lt m.wf
 have hav : ∀ b, b ∈ slB vh' → b ∉ slB va := fun b hb hh => by
  rcases s7 b hb with h | h
  ·exact (m.da b hh).2 h
  ·have := (la b hh).2; omega
 have kx : KX (fun b => b ∈ slB vh ∨ b ∈ slB va) h6 h8 := ⟨fun b o hb hg => b8 b o (b7 b o hg fun h => hb (.inl h)) fun h => hb (.inr h), by omega⟩
 refine ⟨⟨w8, ⟨fun b o hb hg => kx.get b o (fun h => ?_) (m.kl.get b o hb hg), by have := m.kl.next; omega⟩, m.lx, ?_, ⟨ch ++ c5, ?_, ?_⟩, fun b hb => ⟨fun hX => ?_, fun hh => ?_⟩, fun b hb hX => ?_⟩, kx⟩
 ·rcases h with h | h
  ·have := (lh b h).1; omega
  ·have := (la b h).1; omega
 ·have e1 : (H ++ [e]).length = H.length + 1 := by simp
  have e2 : u64s ((H ++ [e]).map (·.x)) = u64s (H.map (·.x)) ++ [.int .u64 (e.x : Nat)] := by simp [u64s]
  rw [e1, e2]; exact o8
 ·have e1 : (H ++ [e]).length = H.length + 1 := by simp
  rw [e1]
  exact o7.but fun b o hb hg => b8 b o hg (hav b hb)
 ·have e2 : (H ++ [e]).map (·.V) = H.map (·.V) ++ [e.V] := by simp
  rw [e2]
  exact RepLs.app hrl (RepLs.one hc)
 ·rcases s8 b hb with h | h
  ·exact (m.da b h).1 hX
  ·have := hx b hX; omega
 ·rcases s8 b hb with h | h
  ·exact hav b hh h
  ·have := (o7.lt w7 b hh).2; omega
 ·rcases s7 b hb with h | h
  ·exact m.dh b h hX
  ·have := hx b hX; omega
theorem GS.x {E : Env} {h h' : Heap} {L : HL} {cb mb lo0 ph : Nat} {lo hi : List Cl} {p : Ms} {rt : List Nat} {T n : Nat} {sv : Value} {S : HS} (g : GS E h L cb mb lo0 ph lo hi p rt T n sv S) {X : Nat → Prop} (k : KX X h h') (hX : ∀ b, XC L cb mb sv b → ¬ X b) : GS E h' L cb mb lo0 ph lo hi p rt T n sv S := by
 obtain ⟨r, v, gc⟩ := g.c.get
 exact ⟨g.H.x k fun j hj => hX j (.inl hj), g.w, g.l, g.rt, g.wt, g.op, g.bd, g.m.x k (hX mb (.inr (.inl rfl))) fun j hj => hX j (.inr (.inr (.inr hj))), ⟨g.c.nb, g.c.ne, g.c.sep, r, v, k.get _ _ (hX cb (.inr (.inr (.inl rfl)))) gc⟩, g.mks, g.st, g.le⟩
theorem own_load {E : Env} {h : Heap} {e z lo n : Nat} {cs : List Value} {a : Option Addr} {c : Nat} (hW : WF E h) (H : Own h e z lo n cs (.slice a n c)) {i : Nat} (hi : i < n) : ∃ a', a = some a' ∧ a'.spot = none ∧ acells E h ⟨a'.block, a'.off + i * z, none⟩ z = some ((cs.drop (i * z)).take z) := by
 obtain ⟨G, sl, fz, _⟩ := own_sl hW H
 obtain ⟨a', c', e1, e2, e3⟩ := sl.elem fz hi
 injection e1 with e1
 exact ⟨a', e1, e2, e3⟩
structure Lg (E : Env) (G : Mem) (h0 : Heap) (L : HL) (cb mb W i ph : Nat) (lo hi : List Cl) (p : Ms) (T n : Nat) (sv : Value) (S : HS) (H : List Hd1) (va vh : Value) (h' : Heap) : Prop where
 g : GS E h' L cb mb h0.next ph lo hi p (rtOf H) T n sv S
 ci : CI ph lo hi p (rtOf H) (fun _ => True)
 held : Held (lo ++ hi) (rtOf H) H
 m : Lm E G h0 L cb mb sv H va vh h'
 T : T ≤ W
 n : 2 * n ≤ W + i
 sum : (H.map fun e => gwV e.V).sum ≤ W
def LSt (E : Env) (G : Mem) (h0 : Heap) (L : HL) (cb mb W i : Nat) (Q : Nat → Prop) (va vh : Value) (h' : Heap) : Prop :=
 ∃ ph lo hi p T n sv S H, Lg E G h0 L cb mb W i ph lo hi p T n sv S H va vh h' ∧ Q ph
variable {E : Env} (hE : EOk E)
include hE
theorem moves_at {h0 : Heap} (hW : WF E h0) {G : Mem} (hG : Frz E G h0) {l : List Vl} {cs : List Value} {v : Value} (hs : Sl E G 5 l.length cs v) (hl : RepLs E G l cs) (hsm : ∀ V, V ∈ l → allV smallV V = true ∧ (V.sz ≤ 5000 → (bytesV V).length ≤ 1000000000000)) {steps : Int} :
 CallsTo E 4 [v, .int .i64 steps] h0 fun r h' => r = .bool true ∧ Keep h0 h' ∧ WF E h' := by
 have hs0 := hs
 obtain ⟨xa, xk, rfl, _, _⟩ := hs.slice
 refine en hE Tryz.func4 rfl rfl Tryz.ntmps4 rfl (by decide +kernel) (rs := [.tmp 4]) rfl ?_
 simp only [push_cast, seval, hE.P, zz]
 refine (awakeG_at hE hW).mono ?_
 rintro v ha ⟨rfl, ka, wa⟩
 simp only [push_cast, seval, hE.P, zz]
 refine (vast_at hE wa (hG.keep ka) hs0 hl).mono ?_
 rintro v hb ⟨⟨b, rfl, hsum⟩, kb, wb⟩
 simp only [push_cast, seval, hE.P, zz]
 refine kif_split (fun hb' => ?_) (fun hb' => ?_)
 ·subst hb'
  simp only [push_cast, seval, hE.P, zz]
  exact ⟨ka.trans kb, wb⟩
 ·subst hb'
  have hsum := hsum rfl
  have hsz : ∀ x, x ∈ l → x.sz ≤ 5000 := fun x hx => by
   have h0 : ∀ y, y ∈ (l.map fun x => (x.sz : Int)) → 0 ≤ y := fun y hy => by obtain ⟨z, _, rfl⟩ := List.mem_map.1 hy; omega
   have := sum_mem h0 (List.mem_map.2 ⟨x, hx, rfl⟩ : (x.sz : Int) ∈ l.map fun x => (x.sz : Int))
   omega
  have hlen : l.length ≤ 5000 := by
   have h1 : (l.map fun _ => (1 : Int)).sum ≤ (l.map fun x => (x.sz : Int)).sum := sum_mono fun x _ => by have := sz_eq x; omega
   have h2 : ∀ l : List Vl, (l.map fun _ => (1 : Int)).sum = l.length := fun l => by
    induction l with
    | nil => rfl
    | cons x l ih => simp only [List.map_cons, List.sum_cons, ih, List.length_cons]; omega
   rw [h2] at h1; omega
  have kab := ka.trans kb
  simp only [push_cast, seval, hE.P, zz]
  refine wpc_loop (fun m tm h' => ∃ i, m = 40 - i ∧ i ≤ 40 ∧ i ≤ l.length ∧ fget tm 6 = .int .i64 i ∧ fget tm 5 = .int .i64 (sumG l i) ∧ fget tm 0 = .slice xa l.length xk ∧ fget tm 1 = .int .i64 steps ∧ Keep h0 h' ∧ WF E h') 40 ?_ ?_
  ·exact ⟨0, by omega, by omega, by omega, by simp only [push_cast, seval, hE.P, zz], by simp only [push_cast, seval, hE.P, zz, sumG]; rfl, by simp only [push_cast, seval, hE.P, zz], by simp only [push_cast, seval, hE.P, zz], kab, wb⟩
  ·rintro m tm h1 ⟨i, rfl, hi, hil, f6, f5, f0, f1, k1, w1⟩
   have hsg := sumG_le l i
   simp only [push_cast, seval, hE.P, zz, f6, f0]
   refine kguard_cut (fun tm' h' => fget tm' 39 = .bool (decide (i < l.length ∧ i < 40)) ∧ fget tm' 6 = .int .i64 i ∧ fget tm' 5 = .int .i64 (sumG l i) ∧ fget tm' 0 = .slice xa l.length xk ∧ fget tm' 1 = .int .i64 steps ∧ h' = h1) ?_ ?_
   rotate_left
   ·refine kguard_splitT (fun hb => ?_) (fun hb => ?_)
    ·have hli : i < l.length := by simpa using hb
     have e4 : decide ((i : Int) < 40) = decide (i < l.length ∧ i < 40) := decide_eq_decide.2 (by omega)
     simp only [push_cast, seval, hE.P, zz, hb, f6, e4]
     exact ⟨f5, f0, f1⟩
    ·have hli : ¬ i < l.length := by simpa using hb
     have e4 : decide (i < l.length ∧ i < 40) = false := decide_eq_false (by omega)
     simp only [push_cast, seval, hE.P, zz, hb, f6, e4]
     exact ⟨f5, f0, f1⟩
   ·clear f6 f5 f0 f1
    rintro tm h1 ⟨f39, f6, f5, f0, f1, rfl⟩
    simp only [push_cast, seval, hE.P, zz, f39]
    refine kif_split (fun hb2 => ?_) (fun hb2 => ?_)
    ·obtain ⟨hli, hi2⟩ := of_decide_eq_true hb2
     obtain ⟨a, c, hsl1, hsp, hac⟩ := hs0.elem (hG.keep k1) hli
     injection hsl1 with e1 e2 e3; subst e1; subst e3
     have hrc := hl.at i l[i] (by simp [hli])
     have hxz : l[i].sz ≤ 5000 := hsz _ (List.getElem_mem hli)
     obtain ⟨ci, hci⟩ : ∃ ci, ci = (cs.drop (i * 5)).take 5 := ⟨_, rfl⟩
     rw [← hci] at hrc hac
     have hrcC := hrc
     obtain ⟨sl', sf', cl', cf', rfl, hsl', hsf', _⟩ := hrc.cells
     obtain ⟨a4, cap4, rfl, _, _⟩ := hsl'.slice
     obtain ⟨a5, cap5, rfl, _, _⟩ := hsf'.slice
     have hacK : ∀ h', Frz E G h' → acells E h' ⟨a.block, a.off + i * 5, none⟩ 5 = some [.int .i64 l[i].k, .int .i64 l[i].n, .string l[i].s, .slice a4 l[i].l.length cap4, .slice a5 l[i].f.length cap5] := fun h' hf => by
      obtain ⟨a', c', hsl1', hsp', hac'⟩ := hs0.elem hf hli
      injection hsl1' with e1 e2 e3; injection e1 with e1; subst e1
      rw [← hci] at hac'; exact hac'
     have hmem := List.getElem_mem hli
     obtain ⟨i1, hi1⟩ : ∃ i1, i1 = i + 1 := ⟨_, rfl⟩
     have q1 : (i : Int) + 1 = i1 := by omega
     have q2 : IntKind.i64.wrap (i1 : Int) = i1 := wrN (by omega)
     have hsu := sumG_succ hli
     simp only [push_cast, seval, hE.P, zz, f6, f0]
     rw [ia22 hsp (by omega) (by omega), kpure_some]
     simp only [push_cast, seval, hE.P, zz, f6, f0, ↓hac]
     refine (goodR_at hE (V := l[i]) (by omega) (hsm _ hmem).1 ((hsm _ hmem).2 hxz) w1 (hG.keep k1) hrcC).mono ?_
     rintro v h2 ⟨rfl, k2, w2⟩
     by_cases hgd : goodV l[i] = 0
     ·have eg : (goodV l[i] == 0) = true := by simp [hgd]
      obtain ⟨gw1, gw2, gw3, gw4⟩ := good_w hgd
      have hac2 := hacK h2 (hG.keep (k1.trans k2))
      simp only [push_cast, seval, hE.P, zz, eg, f6, f0]
      rw [ia22 hsp (by omega) (by omega), kpure_some]
      simp only [push_cast, seval, hE.P, zz, f6, f0, ↓hac2]
      refine (wordsR_at hE l[i].sz l[i] (Nat.le_refl _) (by omega) (good_parts hgd).1 w2 (hG.keep (k1.trans k2)) hrcC).mono ?_
      rintro v h3 ⟨rfl, k3, w3⟩
      rw [← gw1]
      obtain ⟨s2, hs2⟩ : ∃ s2, s2 = sumG l i1 := ⟨_, rfl⟩
      have q3 : (sumG l i : Int) + gwV l[i] = s2 := by rw [hs2, hi1]; omega
      have hs3 := sumG_le l i1
      have q4 : IntKind.i64.wrap (s2 : Int) = s2 := wrN (by omega)
      generalize sumG l i = s1 at *
      simp only [push_cast, seval, hE.P, zz, f5, f6, f0, q1, q2, q3, q4]
      exact ⟨40 - i1, by omega, i1, rfl, by omega, by omega, rfl, by rw [hs2], f1, (k1.trans k2).trans k3, w3⟩
     ·have eg : (goodV l[i] == 0) = false := by simp [hgd]
      have hz : gwV l[i] = 0 := by unfold gwV; rw [if_neg hgd]
      have q3 : sumG l i1 = sumG l i := by rw [hi1]; omega
      simp only [push_cast, seval, hE.P, zz, eg, f6, f0, q1, q2]
      exact ⟨40 - i1, by omega, i1, rfl, by omega, by omega, rfl, by rw [q3]; exact f5, f1, k1.trans k2, w2⟩
    ·have hlast := of_decide_eq_false hb2
     simp only [push_cast, seval, hE.P, zz, f5]
     refine kif_split (fun hb3 => ?_) (fun hb3 => ?_)
     ·simp only [push_cast, seval, hE.P, zz]
      exact ⟨k1, w1⟩
     ·have hW0 : sumG l i ≤ 10000 := by
       have : ¬ (10000 : Int) < sumG l i := by simpa using hb3
       omega
      simp only [push_cast, seval, hE.P, zz]
      refine (fresh_at hE w1 (W := 65536) (nS := 16384) (by omega) (by omega) (by omega) (by omega)).mono ?_
      rintro v h2 ⟨L, rfl, H2, hL, k2, w2⟩
      obtain ⟨S, HS2, W2, L2, hSW, hSn, hSt, hSc, hwt, hop, hrt, hgen⟩ := fresh_S H2
      have hlt := HS2.ltB w2
      simp only [push_cast, seval, hE.P, zz, nilH]
      refine (cnew_at hE w2).mono ?_
      rintro v h3 ⟨rfl, g3m, g3c, hn3, k3, w3⟩
      have kA := (k1.trans k2).trans k3
      have hb0 : ∀ b, b ∈ L.blocks → h0.next ≤ b ∧ b < h2.next := fun b hb => ⟨by have := hL b hb; have := k1.next; omega, (hlt b hb).2⟩
      have hn2 := k2.next
      have hn1 := k1.next
      have e0 : LSt E G h0 L (h2.next + 1) h2.next 0 0 (fun _ => True) (.slice none 0 0) (.slice none 0 0) h3 := by
       refine ⟨0, [], [], (fun _ => false, []), 0, 0, .slice none 0 0, S, [], ⟨⟨HS2.keep k3, W2, L2, hrt, hwt, hop, ⟨by omega, by omega, fun i hi => by rw [hgen i hi]; omega, hSW, hSn⟩, ⟨fun hm => by have := (hb0 _ hm).2; omega, g3m, .inl ⟨rfl, rfl, rfl⟩, fun b hb => (by cases hb)⟩, ⟨fun hm => by have := (hb0 _ hm).2; omega, by omega, fun hb => (by cases hb), 0, 0, g3c⟩, fun hp => (by cases hp), fun _ => rfl, by omega⟩, ⟨fun hp => (by cases hp), fun hp => (by cases hp)⟩, ⟨by simp, rfl, fun e he => (by cases he), by simp⟩, ⟨w3, kA.lo, fun b hx => ?_, .inl ⟨rfl, rfl, rfl⟩, ⟨[], .inl ⟨rfl, rfl, rfl⟩, by unfold RepLs; rfl⟩, fun b hb => (by cases hb), fun b hb => (by cases hb)⟩, by omega, by omega, by simp⟩, trivial⟩
       rcases hx with h5 | h5 | h5 | h5
       ·exact (hb0 b h5).1
       ·omega
       ·omega
       ·cases h5
      simp only [push_cast, seval, hE.P, zz]
      obtain ⟨cb, hcb⟩ : ∃ cb, cb = h2.next + 1 := ⟨_, rfl⟩
      obtain ⟨mb, hmb⟩ : ∃ mb, mb = h2.next := ⟨_, rfl⟩
      rw [← hcb, ← hmb] at e0
      rw [← hcb]
      refine wpc_loop (fun m tm h' => ∃ (j : Nat) (va vh : Value), m = 40 - j ∧ j ≤ 40 ∧ j ≤ l.length ∧ fget tm 13 = .int .i64 j ∧ fget tm 9 = .pointer (some ⟨L.ph, 0, none⟩) ∧ fget tm 10 = .pointer (some ⟨cb, 0, none⟩) ∧ fget tm 12 = va ∧ fget tm 11 = vh ∧ fget tm 0 = .slice xa l.length xk ∧ fget tm 1 = .int .i64 steps ∧
       LSt E G h0 L cb mb (sumG l j) j (fun _ => True) va vh h') 40 ?_ ?_
      ·exact ⟨0, _, _, by omega, by omega, by omega, by simp only [push_cast, seval, hE.P, zz], by simp only [push_cast, seval, hE.P, zz], by simp only [push_cast, seval, hE.P, zz], rfl, rfl, by simp only [push_cast, seval, hE.P, zz, f0], by simp only [push_cast, seval, hE.P, zz, f1], by simp only [push_cast, seval, hE.P, zz]; exact e0⟩
      ·clear f39 f6 f5 f0 f1 e0
       rintro m tm h4 ⟨j, va, vh, rfl, hj, hjl, f13, f9, f10, f12, f11, f0, f1, st⟩
       have hsg := sumG_le l j
       have hsgi : sumG l j ≤ 10000 := by
        have hji : j ≤ i := by omega
        have := sumG_mono l hji
        omega
       simp only [push_cast, seval, hE.P, zz, f13, f0]
       refine kguard_cut (fun tm' h' => fget tm' 73 = .bool (decide (j < l.length ∧ j < 40)) ∧ fget tm' 13 = .int .i64 j ∧ fget tm' 9 = .pointer (some ⟨L.ph, 0, none⟩) ∧ fget tm' 10 = .pointer (some ⟨cb, 0, none⟩) ∧ fget tm' 12 = va ∧ fget tm' 11 = vh ∧ fget tm' 0 = .slice xa l.length xk ∧ fget tm' 1 = .int .i64 steps ∧ h' = h4) ?_ ?_
       rotate_left
       ·refine kguard_splitT (fun hb => ?_) (fun hb => ?_)
        ·have hli : j < l.length := by simpa using hb
         have e4 : decide ((j : Int) < 40) = decide (j < l.length ∧ j < 40) := decide_eq_decide.2 (by omega)
         simp only [push_cast, seval, hE.P, zz, hb, f13, e4]
         exact ⟨f9, f10, f12, f11, f0, f1⟩
        ·have hli : ¬ j < l.length := by simpa using hb
         have e4 : decide (j < l.length ∧ j < 40) = false := decide_eq_false (by omega)
         simp only [push_cast, seval, hE.P, zz, hb, f13, e4]
         exact ⟨f9, f10, f12, f11, f0, f1⟩
       ·clear f13 f9 f10 f12 f11 f0 f1
        rintro tm h4 ⟨f73, f13, f9, f10, f12, f11, f0, f1, rfl⟩
        obtain ⟨ph, lo, hi, p, T, n, sv, S4, H, lg, _⟩ := st
        have frz4 := lg.m.frz hW hG
        have sep4 := lg.m.sep hW hG
        simp only [push_cast, seval, hE.P, zz, f73]
        refine kif_split (fun hb2 => ?_) (fun hb2 => ?_)
        ·obtain ⟨hli, hj2⟩ := of_decide_eq_true hb2
         obtain ⟨a, c, hsl1, hsp, hac⟩ := hs0.elem frz4 hli
         injection hsl1 with e1 e2 e3; subst e1; subst e3
         have hrc := hl.at j l[j] (by simp [hli])
         have hxz : l[j].sz ≤ 5000 := hsz _ (List.getElem_mem hli)
         obtain ⟨ci, hci⟩ : ∃ ci, ci = (cs.drop (j * 5)).take 5 := ⟨_, rfl⟩
         rw [← hci] at hrc hac
         have hrcC := hrc
         obtain ⟨sl', sf', cl', cf', rfl, hsl', hsf', _⟩ := hrc.cells
         obtain ⟨a4, cap4, rfl, _, _⟩ := hsl'.slice
         obtain ⟨a5, cap5, rfl, _, _⟩ := hsf'.slice
         have hacK : ∀ h', Frz E G h' → acells E h' ⟨a.block, a.off + j * 5, none⟩ 5 = some [.int .i64 l[j].k, .int .i64 l[j].n, .string l[j].s, .slice a4 l[j].l.length cap4, .slice a5 l[j].f.length cap5] := fun h' hf => by
          obtain ⟨a', c', hsl1', hsp', hac'⟩ := hs0.elem hf hli
          injection hsl1' with e1 e2 e3; injection e1 with e1; subst e1
          rw [← hci] at hac'; exact hac'
         have hmem := List.getElem_mem hli
         obtain ⟨j1, hj1⟩ : ∃ j1, j1 = j + 1 := ⟨_, rfl⟩
         have q1 : (j : Int) + 1 = j1 := by omega
         have q2 : IntKind.i64.wrap (j1 : Int) = j1 := wrN (by omega)
         have hsu := sumG_succ hli
         have hsgj : sumG l (j + 1) ≤ 10000 := by
          have hji : j + 1 ≤ i := by omega
          have := sumG_mono l hji
          omega
         simp only [push_cast, seval, hE.P, zz, f13, f9, f0]
         rw [ia22 hsp (by omega) (by omega), kpure_some]
         simp only [push_cast, seval, hE.P, zz, f13, f9, f0, ↓hac]
         have hT := lg.T
         have hn := lg.n
         refine (gbuild_at hE lg.g lg.ci lg.m.wf (V := l[j]) (by omega) frz4 sep4 hrcC (fun hgd => by obtain ⟨q1, q2, q3, q4⟩ := good_w hgd; omega)).mono ?_
         rintro v h5 ⟨k5, w5, hbad, hgood⟩
         have m5 := lg.m.b k5 w5
         have frz5 := m5.frz hW hG
         by_cases hgd : goodV l[j] = 0
         ·obtain ⟨x, N, S5, rfl, g5, ci5, tre5, hm5, hd5⟩ := hgood hgd
          obtain ⟨gw1, gw2, gw3, gw4⟩ := good_w hgd
          have hnums := Go.Proofs.YthfopcdammlmfaaGreatDoor.G.Rep.nums l[j].sz l[j] (Nat.le_refl _) hrcC
          obtain ⟨c, hc, hcx⟩ := List.mem_map.1 tre5.self
          have hxlt : x < 18446744073709551616 := by rw [← hcx]; exact (g5.w.hd_lt g5.H.ok (by simp [hc])).1
          have held5 : Held (lo ++ (hi ++ N)) (rtOf H) H := lg.held.pres Pres.more
          obtain ⟨ch, hoh, hrl⟩ := m5.oh
          obtain ⟨ha, hk, rfl, _⟩ := Own.slice hoh
          obtain ⟨aa, ak, rfl, _⟩ := Own.slice m5.oa
          have hT6 : T + (wordsV l[j]).toNat ≤ sumG l j1 := by rw [hj1]; omega
          have hn6 : 2 * (n + (objsV l[j]).toNat) ≤ sumG l j1 + j1 := by rw [hj1]; omega
          have hsum6 : (H.map fun e => gwV e.V).sum + gwV l[j] ≤ sumG l j1 := by have := lg.sum; rw [hj1]; omega
          have hh16 := lg.held.len
          simp only [push_cast, seval, hE.P, zz, f13, f11]
          refine kguard_cut (fun tm' h' => (∃ B : Bool, fget tm' 100 = .bool B ∧ (B = true → H.length < 16)) ∧ fget tm' 14 = .int .u64 x ∧ fget tm' 13 = .int .i64 j ∧ fget tm' 9 = .pointer (some ⟨L.ph, 0, none⟩) ∧ fget tm' 10 = .pointer (some ⟨cb, 0, none⟩) ∧ fget tm' 12 = .slice aa H.length ak ∧ fget tm' 11 = .slice ha H.length hk ∧ fget tm' 0 = .slice (some a) l.length xk ∧ fget tm' 1 = .int .i64 steps ∧ h' = h5) ?_ ?_
          rotate_left
          ·refine kguard_splitT (fun hb => ?_) (fun hb => ?_)
           ·simp only [push_cast, seval, hE.P, zz, hb, f11]
            exact ⟨⟨_, rfl, fun h => by have := of_decide_eq_true h; omega⟩, f13, f9, f10, f12, f0, f1⟩
           ·simp only [push_cast, seval, hE.P, zz, hb, f11]
            exact ⟨⟨_, rfl, fun h => (by cases h)⟩, f13, f9, f10, f12, f0, f1⟩
          ·clear f73 f13 f9 f10 f12 f11 f0 f1
           rintro tm h5 ⟨⟨B, f100, hB⟩, f14, f13, f9, f10, f12, f11, f0, f1, rfl⟩
           simp only [push_cast, seval, hE.P, zz, f100]
           refine kif_cutN (fun tm' h' => ∃ va' vh', fget tm' 13 = .int .i64 j ∧ fget tm' 9 = .pointer (some ⟨L.ph, 0, none⟩) ∧ fget tm' 10 = .pointer (some ⟨cb, 0, none⟩) ∧ fget tm' 12 = va' ∧ fget tm' 11 = vh' ∧ fget tm' 0 = .slice (some a) l.length xk ∧ fget tm' 1 = .int .i64 steps ∧
            LSt E G h0 L cb mb (sumG l j1) j1 (fun _ => True) va' vh' h') ?_ ?_
           ·clear f100 f14 f13 f9 f10 f12 f11 f0 f1
            rintro tm h6 ⟨va', vh', f13, f9, f10, f12, f11, f0, f1, ph6, lo6, hi6, p6, T6, n6, sv6, S6, H6, lg6, _⟩
            simp only [push_cast, seval, hE.P, zz, f10]
            refine (cphase_at hE lg6.g lg6.m.wf).mono ?_
            rintro v h6 ⟨rfl, rfl⟩
            simp only [push_cast, seval, hE.P, zz, f10]
            refine kguard_cut (fun tm' h' => fget tm' 125 = .bool false ∧ fget tm' 13 = .int .i64 j ∧ fget tm' 9 = .pointer (some ⟨L.ph, 0, none⟩) ∧ fget tm' 10 = .pointer (some ⟨cb, 0, none⟩) ∧ fget tm' 12 = va' ∧ fget tm' 11 = vh' ∧ fget tm' 0 = .slice (some a) l.length xk ∧ fget tm' 1 = .int .i64 steps ∧
             LSt E G h0 L cb mb (sumG l j1) j1 (fun q => q ≠ 0) va' vh' h') ?_ ?_
            rotate_left
            ·by_cases hp : ph6 = 0
             ·subst hp
              have e5 : (((0 : Nat) : Int) == 0) = true := rfl
              refine kguard_splitT (fun hb => ?_) (fun hb => by rw [e5] at hb; cases hb)
              simp only [push_cast, seval, hE.P, zz, hb, f10]
              have hl6 := lg6.g.lo0 (by omega)
              subst hl6
              have hkl6 := lg6.m.kl.next
              refine (cstart_at hE lg6.g lg6.m.wf hkl6 lg6.held.r64 (X := fun _ => True) ⟨fun _ _ _ => trivial, fun _ _ _ _ _ _ => trivial⟩).mono ?_
              rintro v h7 ⟨rfl, hi7, q7, sv7, S7, g7, ci7, pr7, k7, hb7, w7⟩
              simp only [push_cast, seval, hE.P, zz, hb, f13, f9, f10, f12, f11, f0, f1]
              exact ⟨1, [], hi7, q7, T6, n6, sv7, S7, H6, ⟨g7, ci7, lg6.held.pres pr7, lg6.m.x k7 hb7 w7, lg6.T, lg6.n, lg6.sum⟩, by decide⟩
             ·have e5 : ((ph6 : Int) == 0) = false := by simp; omega
              refine kguard_splitT (fun hb => by rw [e5] at hb; cases hb) (fun hb => ?_)
              simp only [push_cast, seval, hE.P, zz, hb, f13, f9, f10, f12, f11, f0, f1]
              exact ⟨ph6, lo6, hi6, p6, T6, n6, sv6, S6, H6, lg6, hp⟩
            ·clear f13 f9 f10 f12 f11 f0 f1
             rintro tm h7 ⟨f125, f13, f9, f10, f12, f11, f0, f1, ph7, lo7, hi7, p7, T7, n7, sv7, S7, H7, lg7, hp7⟩
             have e15 := andi15 steps
             have hm16 : 0 ≤ steps % 16 ∧ steps % 16 < 16 := ⟨Int.emod_nonneg _ (by decide), Int.emod_lt_of_pos _ (by decide)⟩
             have e16 : IntKind.i64.wrap (1 + steps % 16) = 1 + steps % 16 := wr64 (by omega) (by omega)
             have hkl7 := lg7.m.kl.next
             simp only [push_cast, seval, hE.P, zz, f125, f10, f1, e15, e16]
             refine (cstep_at hE lg7.g lg7.ci lg7.m.wf hkl7 (n := 1 + steps % 16) (by omega) (by omega) hp7).mono ?_
             rintro v h8 ⟨⟨b8, rfl⟩, ph8, lo8, hi8, p8, sv8, S8, g8, ci8, pr8, _, _, k8, hb8, w8⟩
             simp only [push_cast, seval, hE.P, zz, f13, f9, f10, f12, f11, f0, f1, q1, q2]
             exact ⟨40 - j1, by omega, j1, va', vh', rfl, by omega, by omega, rfl, rfl, rfl, ph8, lo8, hi8, p8, T7, n7, sv8, S8, H7, ⟨g8, ci8, lg7.held.pres pr8, lg7.m.x k8 hb8 w8, lg7.T, lg7.n, lg7.sum⟩, trivial⟩
           ·refine kif_split (fun hb => ?_) (fun hb => ?_)
            ·have hl16 := hB hb
             simp only [push_cast, seval, hE.P, zz, f9, f11, f14]
             have SR := gsetRoot_at hE g5 ci5 w5 (i := H.length) hl16 (c := c) (by simp [hc]) (hm5 c hc)
             rw [hcx] at SR
             refine SR.mono ?_
             rintro v h6 ⟨rfl, ⟨S6, g6⟩, ci6, k6, w6⟩
             have m6 := m5.b k6 w6
             have frz6 := m6.frz hW hG
             have hac6 := hacK h6 frz6
             simp only [push_cast, seval, hE.P, zz, f13, f11, f0]
             rw [ia22 hsp (by omega) (by omega), kpure_some]
             simp only [push_cast, seval, hE.P, zz, f13, f11, f0, ↓hac6]
             rw [bs22 rfl, kalloc_some]
             simp only [push_cast, seval, hE.P, zz, f11]
             obtain ⟨ch6, hoh6, hrl6⟩ := m6.oh
             have hn60 := m6.kl.next
             refine kwv_app1 (el22 hE.P) w6 (lo := h0.next) hn60 hoh6 rfl rfl (by omega) (by omega) ?_
             intro v7 h7 hown7 hbut7 hblk7 hnx7 w7
             obtain ⟨va7, vk7, rfl, _⟩ := Own.slice hown7
             simp only [push_cast, seval, hE.P, zz, f12, f14]
             rw [bs50 rfl, kalloc_some]
             simp only [push_cast, seval, hE.P, zz, f12]
             have oa7 : Own h7 33 1 h0.next H.length (u64s (H.map (·.x))) (.slice aa H.length ak) := m6.oa.but fun b o hb hg => hbut7 b o hg (m6.da b hb).2
             refine kwv_app1 (el50 hE.P) w7 (lo := h0.next) (by omega) oa7 rfl rfl (by omega) (by omega) ?_
             intro v8 h8 hown8 hbut8 hblk8 hnx8 w8
             obtain ⟨va8, vk8, rfl, _⟩ := Own.slice hown8
             obtain ⟨m8, kx8⟩ := Lm.push (e := ⟨l[j], x, N.map Cl.hd⟩) m6 (g6.xlt w6) hrcC hrl6 (hoh6.lt w6) hbut7 hblk7 hnx7 w7 hown7 hbut8 hblk8 hnx8 w8 hown8
             have g8 := g6.x kx8 fun b hX hh => by
              rcases hh with hh | hh
              ·exact m6.dh b hh hX
              ·exact (m6.da b hh).1 hX
             have hnd : (N.map Cl.hd).Nodup := by
              have := new_nd g5.w g5.H.ok
              rw [List.map_append, List.map_append] at this
              exact (List.nodup_append.1 (List.nodup_append.1 this).2.1).2.1
             have held6 := lg.held.add (e := ⟨l[j], x, N.map Cl.hd⟩) hl16 ⟨tre5, hgd, hnums, hxlt⟩ Pres.more (fun y hy => by
              rw [Bool.eq_false_iff]
              intro hlv
              obtain ⟨d, hd, e⟩ := live_iff.1 hlv
              obtain ⟨d', hd', e'⟩ := List.mem_map.1 hy
              exact hd5 d hd d' hd' (by rw [e, e'])) hnd
             have ert : (rtOf H).set H.length x = rtOf (H ++ [⟨l[j], x, N.map Cl.hd⟩]) := rtOf_set (e := ⟨l[j], x, N.map Cl.hd⟩) hl16
             have held6' : Held (lo ++ (hi ++ N)) (rtOf (H ++ [⟨l[j], x, N.map Cl.hd⟩])) (H ++ [⟨l[j], x, N.map Cl.hd⟩]) := by
              have := held6
              rw [show (rtOf H).set H.length (Hd1.x ⟨l[j], x, N.map Cl.hd⟩) = rtOf (H ++ [⟨l[j], x, N.map Cl.hd⟩]) from ert] at this
              exact this
             rw [ert] at g8 ci6
             simp only [push_cast, seval, hE.P, zz, f13, f9, f10, f0, f1]
             refine ⟨_, _, rfl, rfl, ph, lo, hi ++ N, _, _, _, sv, S6, H ++ [⟨l[j], x, N.map Cl.hd⟩], ⟨g8, ci6, held6', m8, hT6, hn6, ?_⟩, trivial⟩
             rw [List.map_append, List.sum_append]
             simpa using hsum6
            ·simp only [push_cast, seval, hE.P, zz]
             exact ⟨_, _, f13, f9, f10, f12, f11, f0, f1, ph, lo, hi ++ N, _, _, _, sv, S5, H, ⟨g5, ci5, held5, m5, hT6, hn6, by omega⟩, trivial⟩
         ·obtain ⟨rfl, S5, g5⟩ := hbad hgd
          have eg : (goodV l[j] != 0) = true := by simp [hgd]
          have eg2 : (goodV l[j] == 0) = false := by simp [hgd]
          have hac5 := hacK h5 frz5
          have hz : gwV l[j] = 0 := by unfold gwV; rw [if_neg hgd]
          simp only [push_cast, seval, hE.P, zz, eg, f13, f9, f0]
          rw [ia22 hsp (by omega) (by omega), kpure_some]
          simp only [push_cast, seval, hE.P, zz, eg, f13, f9, f0, ↓hac5]
          refine (goodR_at hE (V := l[j]) (by omega) (hsm _ hmem).1 ((hsm _ hmem).2 hxz) w5 frz5 hrcC).mono ?_
          rintro v h6 ⟨rfl, k6, w6⟩
          simp only [push_cast, seval, hE.P, zz, eg2, f13, f9, f10, f12, f11, f0, q1, q2]
          refine ⟨40 - j1, by omega, j1, va, vh, rfl, by omega, by omega, rfl, rfl, rfl, f1, ph, lo, hi, p, T, n, sv, S5, H, ⟨g5.keep k6, lg.ci, lg.held, m5.keep k6 w6, ?_, ?_, ?_⟩, trivial⟩
          ·rw [hj1]; omega
          ·rw [hj1]; omega
          ·have := lg.sum; rw [hj1]; omega
        ·have hlast2 := of_decide_eq_false hb2
         have hji : j = i := by omega
         subst hji
         obtain ⟨ch, hoh, hrl⟩ := lg.m.oh
         obtain ⟨ha, hk, rfl, _⟩ := Own.slice hoh
         obtain ⟨aa, ak, rfl, _⟩ := Own.slice lg.m.oa
         have hh16 := lg.held.len
         have hkl4 := lg.m.kl.next
         simp only [push_cast, seval, hE.P, zz, f10]
         refine (cfull_at hE lg.g ⟨fun e => lg.ci.mark e, fun e => lg.ci.slide e⟩ lg.m.wf hkl4 lg.held.r64 (X := fun _ => True) (fun A S' _ _ _ => ⟨fun _ _ _ => trivial, fun _ _ _ _ _ _ => trivial⟩)).mono ?_
         rintro v h5 ⟨⟨z, rfl⟩, A5, q5, sv5, S5, g5, pr5, _, k5, hb5, w5⟩
         have m5 := lg.m.x k5 hb5 w5
         have held5 : Held ([] ++ A5) (rtOf H) H := lg.held.pres pr5
         have hT := lg.T
         have hn := lg.n
         have hsum := lg.sum
         simp only [push_cast, seval, hE.P, zz]
         refine wpc_loop (fun m tm h' => ∃ (k : Nat) (hi : List Cl) (p : Ms) (T n : Nat) (sv : Value) (S : HS), m = H.length - k ∧ k ≤ H.length ∧ fget tm 21 = .int .i64 k ∧ fget tm 20 = .int .i64 (((H.take k).map fun e => gwV e.V).sum : Nat) ∧ fget tm 9 = .pointer (some ⟨L.ph, 0, none⟩) ∧ fget tm 10 = .pointer (some ⟨cb, 0, none⟩) ∧ fget tm 12 = .slice aa H.length ak ∧ fget tm 11 = .slice ha H.length hk ∧
          GS E h' L cb mb h0.next 0 [] hi p (rtOf H) T n sv S ∧ Held ([] ++ hi) (rtOf H) H ∧ Lm E G h0 L cb mb sv H (.slice aa H.length ak) (.slice ha H.length hk) h' ∧ T ≤ sumG l j + ((H.take k).map fun e => gwV e.V).sum ∧ 2 * n ≤ sumG l j + j + ((H.take k).map fun e => gwV e.V).sum + k) H.length ?_ ?_
         ·exact ⟨0, A5, q5, _, _, sv5, S5, by omega, by omega, by simp only [push_cast, seval, hE.P, zz], by simp only [push_cast, seval, hE.P, zz]; rfl, by simp only [push_cast, seval, hE.P, zz, f9], by simp only [push_cast, seval, hE.P, zz, f10], by simp only [push_cast, seval, hE.P, zz, f12], by simp only [push_cast, seval, hE.P, zz, f11], g5, held5, m5, by simpa using hT, by simpa using hn⟩
         ·clear f73 f13 f9 f10 f12 f11 f0 f1
          rintro m tm h6 ⟨k, hi6, p6, T6, n6, sv6, S6, rfl, hkl, f21, f20, f9, f10, f12, f11, g6, held6, m6, hT6, hn6⟩
          simp only [push_cast, seval, hE.P, zz, f21, f11]
          refine kif_split (fun hb3 => ?_) (fun hb3 => ?_)
          ·have hlk : k < H.length := by
            have : (k : Int) < H.length := by simpa using hb3
            omega
           have ok := held6.all H[k] (List.getElem_mem hlk)
           obtain ⟨gw1, gw2, gw3, gw4⟩ := good_w ok.good
           have hVz : H[k].V.sz ≤ 10000 := by
            obtain ⟨p1, _, _, _, p5⟩ := good_parts ok.good
            have := Go.Proofs.YthfopcdammlmfaaGreatDoor.G.sz_le_size H[k].V.sz H[k].V (Nat.le_refl _) p1
            omega
           have hgwk := gwV_le H[k].V
           have frz6 := m6.frz hW hG
           obtain ⟨ch6, hoh6, hrl6⟩ := m6.oh
           have hrep := hrl6.at k H[k].V (by simp [hlk])
           obtain ⟨cx, hcx⟩ : ∃ cx, cx = (ch6.drop (k * 5)).take 5 := ⟨_, rfl⟩
           rw [← hcx] at hrep
           have hrepC := hrep
           obtain ⟨sl7, sf7, cl7, cf7, rfl, hsl7, hsf7, _⟩ := hrep.cells
           obtain ⟨a7, cap7, rfl, _, _⟩ := hsl7.slice
           obtain ⟨b7, cbp7, rfl, _, _⟩ := hsf7.slice
           obtain ⟨ya, rfl, yb2, yb3⟩ := own_load m6.wf hoh6 hlk
           obtain ⟨za, rfl, zb2, zb3⟩ := own_load m6.wf m6.oa hlk
           have hu : ((u64s (H.map (·.x))).drop (k * 1)).take 1 = [.int .u64 (H[k].x : Nat)] := by
            rw [u64s_at (by simpa using hlk)]; simp
           rw [← hcx] at yb3
           have lv : ∀ h', WF E h' → (∀ b o, b ∈ slB (.slice (some ya) H.length hk) → h6.get b = some o → h'.get b = some o) → acells E h' ⟨ya.block, ya.off + k * 5, none⟩ 5 = some [.int .i64 H[k].V.k, .int .i64 H[k].V.n, .string H[k].V.s, .slice a7 H[k].V.l.length cap7, .slice b7 H[k].V.f.length cbp7] := fun h' w' kk => by
            obtain ⟨a', e1, _, e3⟩ := own_load w' (hoh6.but kk) hlk
            injection e1 with e1; subst e1
            rw [← hcx] at e3; exact e3
           have la : ∀ h', WF E h' → (∀ b o, b ∈ slB (.slice (some za) H.length ak) → h6.get b = some o → h'.get b = some o) → acells E h' ⟨za.block, za.off + k, none⟩ 1 = some [.int .u64 (H[k].x : Nat)] := fun h' w' kk => by
            obtain ⟨a', e1, _, e3⟩ := own_load w' (m6.oa.but kk) hlk
            injection e1 with e1; subst e1
            rw [hu, Nat.mul_one] at e3; exact e3
           obtain ⟨V, hV⟩ : ∃ V, V = H[k].V := ⟨_, rfl⟩
           obtain ⟨x, hx⟩ : ∃ x, x = H[k].x := ⟨_, rfl⟩
           have htr := ok.tre
           have hxlt := ok.lt
           have hgd := ok.good
           have hnm := ok.nums
           rw [← hV] at hrepC lv yb3 gw1 gw2 gw3 gw4 hVz hgwk htr hgd hnm
           rw [← hx] at la htr hxlt
           have hrd := htr.rd hgd hnm
           have hh16' := held6.len
           simp only [push_cast, seval, hE.P, zz, f21, f11]
           rw [ia22 yb2 (by omega) (by omega), kpure_some]
           simp only [push_cast, seval, hE.P, zz, f21, f11, ↓yb3]
           refine (wordsR_at hE V.sz V (Nat.le_refl _) hVz (good_parts hgd).1 m6.wf frz6 hrepC).mono ?_
           rintro v h7 ⟨rfl, k7, w7⟩
           rw [← gw1]
           have hsumk : ((H.take k).map fun e => gwV e.V).sum ≤ sumG l j := by
            have e : (H.map fun e => gwV e.V).sum = ((H.take k).map fun e => gwV e.V).sum + ((H.drop k).map fun e => gwV e.V).sum := by
             rw [← List.sum_append, ← List.map_append, List.take_append_drop]
            omega
           obtain ⟨k1, hk1⟩ : ∃ k1, k1 = k + 1 := ⟨_, rfl⟩
           have hsk : ((H.take k1).map fun e => gwV e.V).sum = ((H.take k).map fun e => gwV e.V).sum + gwV V := by
            rw [hk1, List.take_succ_eq_append_getElem hlk, List.map_append, List.sum_append, List.map_cons, List.map_nil, List.sum_cons, List.sum_nil, Nat.add_zero, hV]
           obtain ⟨s0, hs0'⟩ : ∃ s0, s0 = ((H.take k).map fun e => gwV e.V).sum := ⟨_, rfl⟩
           obtain ⟨s1, hs1'⟩ : ∃ s1, s1 = ((H.take k1).map fun e => gwV e.V).sum := ⟨_, rfl⟩
           rw [← hs0', ← hs1'] at hsk
           rw [← hs0'] at f20 hT6 hn6 hsumk
           have q1 : (k : Int) + 1 = k1 := by omega
           have q2 : IntKind.i64.wrap (k1 : Int) = k1 := wrN (by omega)
           have q3 : (s0 : Int) + gwV V = s1 := by omega
           have q4 : IntKind.i64.wrap (s1 : Int) = s1 := wrN (by omega)
           have la7 := la h7 w7 fun b o _ hg => k7.get b o hg
           simp only [push_cast, seval, hE.P, zz, f20, f9, f12, f21, q3, q4]
           rw [ia50 zb2 (by omega) (by omega), kpure_some]
           simp only [push_cast, seval, hE.P, zz, f20, f9, f12, f21, q3, q4, ↓la7]
           refine (gcopy_at hE (g6.keep k7) ⟨fun e => (by cases e), fun e => (by cases e)⟩ w7 hxlt hrd hgd (by omega)).mono ?_
           rintro v h8 ⟨k8, w8, _, hgood⟩
           obtain ⟨y, N, S8, rfl, g8, ci8, tre8, hm8, hd8⟩ := hgood hgd
           have m8 := (m6.keep k7 w7).b k8 w8
           have kV8 : ∀ b o, b ∈ slB (.slice (some ya) H.length hk) → h6.get b = some o → h8.get b = some o := fun b o hb hg => k8.get b o (fun hm => m6.dh b hb (.inl hm)) (k7.get b o hg)
           have kA8 : ∀ b o, b ∈ slB (.slice (some za) H.length ak) → h6.get b = some o → h8.get b = some o := fun b o hb hg => k8.get b o (fun hm => (m6.da b hb).1 (.inl hm)) (k7.get b o hg)
           have la8 := la h8 w8 kA8
           obtain ⟨c, hc, hcy⟩ := List.mem_map.1 tre8.self
           have hylt : y < 18446744073709551616 := by rw [← hcy]; exact (g8.w.hd_lt g8.H.ok (by simp [hc])).1
           have hrdx8 := (Pres.more (N := N) (lo := []) (hi := hi6) (rt := [x]) x V H[k].hs (by simp) htr).rd hgd hnm
           have hrdy8 := tre8.rd hgd hnm
           have hne : y ≠ x := fun e => by
            obtain ⟨o, ho, _⟩ := htr.live htr.self
            obtain ⟨d, hd, e1, _⟩ := gobj_some ho
            exact hd8 d hd c hc (by rw [e1, hcy, e])
           simp only [push_cast, seval, hE.P, zz, f9, f12, f21]
           rw [ia50 zb2 (by omega) (by omega), kpure_some]
           simp only [push_cast, seval, hE.P, zz, f9, f12, f21, ↓la8]
           refine (Go.Proofs.YthfopcdammlmfaaGreatDoor.G.compD_at hE g8.gm w8 hxlt hylt hrdx8 hrdy8 hgd hgd).mono ?_
           rintro v h9 ⟨rfl, k9, w9⟩
           rw [cmpV_self V.sz V (Nat.le_refl _)]
           have la9 := la h9 w9 fun b o hb hg => k9.get b o (kA8 b o hb hg)
           have lv9 := lv h9 w9 fun b o hb hg => k9.get b o (kV8 b o hb hg)
           have g9 := g8.keep k9
           have m9 := m8.keep k9 w9
           have frz9 := m9.frz hW hG
           have eyx : ((y : Int) == x) = false := by simp; omega
           simp only [push_cast, seval, hE.P, zz]
           refine wdraw_calm (by rw [hE.P]; decide +kernel) ?_
           simp only [push_cast, seval, hE.P, zz, f9, f12, f21, f11, eyx]
           rw [ia50 zb2 (by omega) (by omega), kpure_some]
           simp only [push_cast, seval, hE.P, zz, f9, f12, f21, f11, eyx, ↓la9]
           rw [ia50 zb2 (by omega) (by omega), kpure_some]
           simp only [push_cast, seval, hE.P, zz, f9, f12, f21, f11, ↓la9]
           rw [ia22 yb2 (by omega) (by omega), kpure_some]
           simp only [push_cast, seval, hE.P, zz, f9, f12, f21, f11, ↓lv9]
           refine (Go.Proofs.YthfopcdammlmfaaGreatDoor.G.reads_at hE g9.gm w9 hxlt hrdx8 hgd frz9 hrepC).mono ?_
           rintro v h10 ⟨rfl, k10, w10⟩
           have lv10 := lv h10 w10 fun b o hb hg => k10.get b o (k9.get b o (kV8 b o hb hg))
           have g10 := g9.keep k10
           have m10 := m9.keep k10 w10
           have frz10 := m10.frz hW hG
           simp only [push_cast, seval, hE.P, zz, f9, f12, f21, f11]
           rw [ia22 yb2 (by omega) (by omega), kpure_some]
           simp only [push_cast, seval, hE.P, zz, f9, f12, f21, f11, ↓lv10]
           refine (Go.Proofs.YthfopcdammlmfaaGreatDoor.G.reads_at hE g10.gm w10 hylt hrdy8 hgd frz10 hrepC).mono ?_
           rintro v h11 ⟨rfl, k11, w11⟩
           simp only [push_cast, seval, hE.P, zz, f9, f12, f21, f11]
           simp only [push_cast, seval, hE.P, zz, f9, f10, f12, f21, f11, q1, q2]
           rw [hs1'] at hsk
           refine ⟨H.length - k1, by omega, k1, hi6 ++ N, _, _, _, sv6, S8, rfl, by omega, rfl, by rw [hs1'], g10.keep k11, held6.pres Pres.more, m10.keep k11 w11, ?_, ?_⟩
           ·rw [hsk]; omega
           ·rw [hsk]; omega
          ·have hge : k = H.length := by
            have : ¬ (k : Int) < H.length := by simpa using hb3
            omega
           subst hge
           rw [List.take_length] at f20 hT6 hn6
           have hkl6 := m6.kl.next
           simp only [push_cast, seval, hE.P, zz, f10]
           refine (cfull_at hE g6 ⟨fun e => (by cases e), fun e => (by cases e)⟩ m6.wf hkl6 held6.r64 (X := fun y => y ∈ H.flatMap (·.hs)) (fun A S' w' ok' pr => (held6.pres pr).xc w' ok')).mono ?_
           rintro v h7 ⟨⟨z, rfl⟩, A7, q7, sv7, S7, g7, pr7, on7, k7, hb7, w7⟩
           have m7 := m6.x k7 hb7 w7
           have held7 : Held A7 (rtOf H) H := held6.pres pr7
           have hop7 : S7.open_ = false := g7.op
           have hc7 : Cont 0 A7 S7.top := by
            have := g7.l.hi
            rw [hop7] at this; exact this
           have htop := held7.top g7.w g7.H.ok hc7 (on7 trivial)
           simp only [push_cast, seval, hE.P, zz, f9]
           refine (arena_at hE g7.H).mono ?_
           rintro v h7 ⟨rfl, rfl⟩
           simp only [push_cast, seval, hE.P, zz]
           refine (top_at hE g7.H).mono ?_
           rintro v h7 ⟨rfl, rfl⟩
           rw [htop]
           simp only [push_cast, seval, hE.P, zz, f20]
           exact ⟨m7.kl.keep hW (Nat.le_refl _), w7⟩
end Go.Proofs.YthfopcdammlmfaaGreatDoor
