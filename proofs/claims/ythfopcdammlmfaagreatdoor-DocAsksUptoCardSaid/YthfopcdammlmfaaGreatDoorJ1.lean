/- value.Hash, doc.Hash; the reference's hash. -/
/- Merged by a program of ours: P9 Y1 Y2 Y3. -/
import Derived.Test.YthfopcdammlmfaaGreatDoorA8
import Derived.Lib.Bytealg
import Derived.Test.YthfopcdammlmfaaGreatDoorD2
import Derived.Test.YthfopcdammlmfaaGreatDoorC5
import Derived.Test.YthfopcdammlmfaaGreatDoorF1
import Derived.Test.YthfopcdammlmfaaGreatDoorB2
import Derived.Test.YthfopcdammlmfaaGreatDoorD7
set_option maxRecDepth 10000
set_option linter.all false
set_option linter.unusedSimpArgs false
set_option linter.unusedVariables false
/- PLAIN: values held against one another: the program's order, and the reference's. No program in sight. -/
namespace Go.Tm
def cmpI (a b : Int) : Int := if a < b then -1 else if a > b then 1 else 0
def cmpS (a b : ByteArray) : Int := Lib.compareBytes a.data.toList b.data.toList
def orI (a b : Int) : Int := if a = 0 then b else a
theorem orI_assoc (a b c : Int) : orI (orI a b) c = orI a (orI b c) := by unfold orI; repeat' split
                                                                          all_goals simp_all
theorem orI_0 (a : Int) : orI 0 a = a := by simp [orI]
theorem orI_r0 (a : Int) : orI a 0 = a := by unfold orI; split <;> simp_all
theorem orI_ne {a b : Int} (h : a ≠ 0) : orI a b = a := by simp [orI, h]
theorem cmpI_self (a : Int) : cmpI a a = 0 := by simp [cmpI]
theorem cmpI_eq {a b : Int} (h : cmpI a b = 0) : a = b := by unfold cmpI at h; split at h; · cases h
                                                             split at h; · cases h
                                                             omega
theorem compareBytes_self : ∀ l : List UInt8, Lib.compareBytes l l = 0
  | [] => rfl
  | a :: l => by
    simp only [Lib.compareBytes]
    rw [if_neg (by exact fun h => absurd h (UInt8.lt_irrefl a)), if_neg (by exact fun h => absurd h (UInt8.lt_irrefl a))]
    exact compareBytes_self l
theorem cmpS_self (a : ByteArray) : cmpS a a = 0 := compareBytes_self _
mutual
def cmpV : Vl → Vl → Int
  | .mk k n s l f, W => orI (cmpI k W.k) (orI (cmpL l W.l) (orI (cmpF f W.f) (orI (cmpI n W.n) (orI (cmpS s W.s) (orI (cmpI l.length W.l.length) (cmpI f.length W.f.length))))))
def cmpL : List Vl → List Vl → Int
  | v :: l, w :: m => orI (cmpV v w) (cmpL l m)
  | [], _ => 0
  | _ :: _, [] => 0
def cmpF : List (ByteArray × Vl) → List (ByteArray × Vl) → Int
  | (a, v) :: l, (b, w) :: m => orI (cmpS a b) (orI (cmpV v w) (cmpF l m))
  | [], _ => 0
  | _ :: _, [] => 0
end
theorem cmpV_eq (V W : Vl) : cmpV V W = orI (cmpI V.k W.k) (orI (cmpL V.l W.l) (orI (cmpF V.f W.f) (orI (cmpI V.n W.n) (orI (cmpS V.s W.s) (orI (cmpI V.l.length W.l.length) (cmpI V.f.length W.f.length)))))) := by
  cases V; rw [cmpV]; rfl
theorem cmpL_r0 (l : List Vl) : cmpL l [] = 0 := by cases l <;> simp [cmpL]
theorem cmpF_r0 (l : List (ByteArray × Vl)) : cmpF l [] = 0 := by cases l <;> simp [cmpF]
theorem cmpL_l0 (l : List Vl) : cmpL [] l = 0 := by simp [cmpL]
theorem cmpF_l0 (l : List (ByteArray × Vl)) : cmpF [] l = 0 := by simp [cmpF]
theorem cmpL_step {l m : List Vl} {i : Nat} (h1 : i < l.length) (h2 : i < m.length) : cmpL (l.drop i) (m.drop i) = orI (cmpV l[i] m[i]) (cmpL (l.drop (i + 1)) (m.drop (i + 1))) := by
  rw [List.drop_eq_getElem_cons h1, List.drop_eq_getElem_cons h2, cmpL]
theorem cmpF_step {l m : List (ByteArray × Vl)} {i : Nat} (h1 : i < l.length) (h2 : i < m.length) : cmpF (l.drop i) (m.drop i) = orI (cmpS l[i].1 m[i].1) (orI (cmpV l[i].2 m[i].2) (cmpF (l.drop (i + 1)) (m.drop (i + 1)))) := by
  rw [List.drop_eq_getElem_cons h1, List.drop_eq_getElem_cons h2]
  have e1 : l[i] = (l[i].1, l[i].2) := rfl
  have e2 : m[i] = (m[i].1, m[i].2) := rfl
  rw [e1, e2, cmpF]
theorem cmpL_end {l m : List Vl} {i : Nat} (h : ¬ (i < l.length ∧ i < m.length)) : cmpL (l.drop i) (m.drop i) = 0 := by
  by_cases h1 : i < l.length
  · rw [(List.drop_eq_nil_of_le (by omega) : m.drop i = [])]; exact cmpL_r0 _
  · rw [(List.drop_eq_nil_of_le (by omega) : l.drop i = [])]; exact cmpL_l0 _
theorem cmpF_end {l m : List (ByteArray × Vl)} {i : Nat} (h : ¬ (i < l.length ∧ i < m.length)) : cmpF (l.drop i) (m.drop i) = 0 := by
  by_cases h1 : i < l.length
  · rw [(List.drop_eq_nil_of_le (by omega) : m.drop i = [])]; exact cmpF_r0 _
  · rw [(List.drop_eq_nil_of_le (by omega) : l.drop i = [])]; exact cmpF_l0 _
theorem formed_unused {V : Vl} (h : formedV V = true) : (V.k ≠ 2 → V.k ≠ 3 → V.n = 0) ∧ (V.k ≠ 4 → V.s = .empty) ∧ (V.k ≠ 5 → V.l = []) ∧ (V.k ≠ 6 → V.f = []) := by
  simp only [formedV, Bool.and_eq_true, Bool.not_eq_true', Bool.or_eq_false_iff, Bool.and_eq_false_iff, decide_eq_false_iff_not, bne_eq_false_iff_eq, Bool.not_eq_false'] at h
  obtain ⟨⟨⟨_, h0, h1⟩, h2, h3⟩, _⟩ := h
  refine ⟨fun a b => ?_, fun a => ?_, fun a => ?_, fun a => ?_⟩
  · rcases h0 with (h0 | h0) | h0
    · exact (a h0).elim
    · exact (b h0).elim
    · exact h0
  · rcases h1 with h1 | h1
    · exact (a h1).elim
    · have : V.s.data.toList = [] := by simpa using h1
      have h4 : V.s.data = #[] := by rw [← Array.toList_eq_nil_iff]; exact this
      cases hs : V.s with
      | mk d => rw [hs] at h4; simp only at h4; subst h4; rfl
  · rcases h2 with h2 | h2
    · exact (a h2).elim
    · exact List.eq_nil_of_length_eq_zero (by omega)
  · rcases h3 with h3 | h3
    · exact (a h3).elim
    · exact List.eq_nil_of_length_eq_zero (by omega)
theorem cmp_ref {V W : Vl} (hV : formedV V = true) (hW : formedV W = true) (hk : V.k = W.k) :
    orI (cmpI V.n W.n) (orI (cmpS V.s W.s) (orI (cmpL V.l W.l) (orI (cmpF V.f W.f) (cmpI ((V.l.length : Int) + V.f.length) ((W.l.length : Int) + W.f.length))))) = cmpV V W := by
  obtain ⟨a1, a2, a3, a4⟩ := formed_unused hV
  obtain ⟨b1, b2, b3, b4⟩ := formed_unused hW
  rw [cmpV_eq, hk, cmpI_self, orI_0]
  rw [hk] at a1 a2 a3 a4
  by_cases h5 : W.k = 5
  · rw [a1 (by omega) (by omega), a2 (by omega), a4 (by omega), b1 (by omega) (by omega), b2 (by omega), b4 (by omega), cmpI_self, cmpS_self, cmpF_l0]
    simp only [orI_0, List.length_nil, Int.natCast_zero, Int.add_zero, cmpI_self, orI_r0]
  · by_cases h6 : W.k = 6
    · rw [a1 (by omega) (by omega), a2 (by omega), a3 (by omega), b1 (by omega) (by omega), b2 (by omega), b3 (by omega), cmpI_self, cmpS_self, cmpL_l0]
      simp [cmpI_self, orI_r0, orI_0]
    · rw [a3 h5, a4 h6, b3 h5, b4 h6, cmpL_l0, cmpF_l0]
      simp [cmpI_self, orI_r0, orI_0]
end Go.Tm
/- The hash of a value, byte by byte. -/
namespace Go.Tm
theorem fnv1_ex : ∃ f : Nat → Nat → Nat, ∀ h b, f h b = ((h ^^^ b) * 1099511628211) % 18446744073709551616 := ⟨fun h b => ((h ^^^ b) * 1099511628211) % 18446744073709551616, fun _ _ => Eq.refl _⟩
noncomputable def fnv1 : Nat → Nat → Nat := Classical.choose fnv1_ex
theorem fnv1_def (h b : Nat) : fnv1 h b = ((h ^^^ b) * 1099511628211) % 18446744073709551616 := Classical.choose_spec fnv1_ex h b
noncomputable def fnv (h : Nat) (l : List Nat) : Nat := l.foldl fnv1 h
theorem fnv_app (h : Nat) (a b : List Nat) : fnv h (a ++ b) = fnv (fnv h a) b := by unfold fnv; rw [List.foldl_append]
theorem foldl_one {α β : Type} (f : β → α → β) (a : β) (b : α) : [b].foldl f a = f a b := rfl
theorem foldl_more {α β : Type} (f : β → α → β) (a : β) (b : α) (l : List α) : (b :: l).foldl f a = l.foldl f (f a b) := rfl
theorem fnv_one (h b : Nat) : fnv h [b] = fnv1 h b := foldl_one fnv1 h b
theorem fnv_cons (h b : Nat) (l : List Nat) : fnv h (b :: l) = fnv (fnv1 h b) l := foldl_more fnv1 h b l
theorem fnv1_lt (h b : Nat) : fnv1 h b < 18446744073709551616 := by rw [fnv1_def]; exact Nat.mod_lt _ (by decide)
theorem fnv_lt : ∀ (l : List Nat) (h : Nat), h < 18446744073709551616 → fnv h l < 18446744073709551616
  | [], _, h => h
  | b :: l, h, _ => by rw [fnv_cons]; exact fnv_lt l _ (fnv1_lt h b)
theorem fnv1_eq {x b : Nat} (hx : x < 18446744073709551616) (hb : b < 256) : IntKind.u64.wrap (bits .xor .u64 (x : Int) (b : Int) * 1099511628211) = ((fnv1 x b : Nat) : Int) := by
  rw [bits_xor_u64_nat x b hx (by omega), IntKind.wrap_u64]
  rw [fnv1_def, Int.natCast_emod, Int.natCast_mul]
  rfl
theorem strB_at {s : ByteArray} {i : Nat} (h : i < s.size) : (strB s).take (i + 1) = (strB s).take i ++ [(s.data.toList.getD i 0).toNat] := by
  have h2 : i < (strB s).length := by rw [strB_len]; exact h
  rw [List.take_succ_eq_append_getElem h2]
  have h3 : i < s.data.toList.length := by simpa using h
  have e : (strB s)[i] = (s.data.toList.getD i 0).toNat := by
    have e1 : (strB s)[i]? = some (s.data.toList.getD i 0).toNat := by
      unfold strB
      rw [List.getElem?_map, List.getD_eq_getElem?_getD, List.getElem?_eq_getElem h3]; rfl
    rw [List.getElem?_eq_getElem h2] at e1
    exact Option.some.inj e1
  rw [e]
end Go.Tm
namespace Go.Proofs.YthfopcdammlmfaaGreatDoor
open Go.Tm
structure Hx (E : Env) (b x : Nat) (h h' : Heap) : Prop where
  cell : h'.get b = some (.cells [.int .u64 (x : Int)] 173 true)
  keep : ∀ j o, j ≠ b → h.get j = some o → h'.get j = some o
  next : h.next ≤ h'.next
  wf : WF E h'
theorem Hx.refl {E : Env} {b x : Nat} {h : Heap} (hg : h.get b = some (.cells [.int .u64 (x : Int)] 173 true)) (w : WF E h) : Hx E b x h h := ⟨hg, fun _ _ _ x => x, Nat.le_refl _, w⟩
theorem Hx.trans {E : Env} {b x y : Nat} {h h1 h2 : Heap} (a : Hx E b x h h1) (c : Hx E b y h1 h2) : Hx E b y h h2 := ⟨c.cell, fun j o hj hg => c.keep j o hj (a.keep j o hj hg), Nat.le_trans a.next c.next, c.wf⟩
theorem Hx.of {E : Env} {b y : Nat} {h h1 h2 : Heap} (k : Keep h h1) (c : Hx E b y h1 h2) : Hx E b y h h2 := ⟨c.cell, fun j o hj hg => c.keep j o hj (k.get j o hg), Nat.le_trans k.next c.next, c.wf⟩
theorem Hx.frz {E : Env} {b x : Nat} {h h' : Heap} {G : Mem} (c : Hx E b x h h') (f : Frz E G h) (hb : G b = none) : Frz E G h' := fun j l hj => by
  obtain ⟨e, fx, hg⟩ := f j l hj
  exact ⟨e, fx, c.keep j _ (fun hh => by rw [hh, hb] at hj; cases hj) hg⟩
variable {E : Env} (hE : EOk E)
include hE
theorem hbytes_at {h : Heap} (hW : WF E h) {b x : Nat} (hg : h.get b = some (.cells [.int .u64 (x : Int)] 173 true)) (hx : x < 18446744073709551616) {s : ByteArray} (hs : s.size ≤ 140737488355328) :
    CallsTo E 158 [.pointer (some ⟨b, 0, none⟩), .string s] h fun v h' => v = .tuple #[] ∧ Hx E b (fnv x (strB s)) h h' := by
  have nb := hW.nlt hg
  refine en hE Tryz.func158 rfl rfl Tryz.ntmps158 rfl (by decide +kernel) (rs := []) rfl ?_
  simp only [push_cast, seval, hE.P, zz]
  refine wpc_loop (fun m tm h' => ∃ i : Nat, m = s.size - i ∧ i ≤ s.size ∧ fget tm 7 = .int .i64 i ∧ fget tm 6 = .int .i64 s.size ∧ fget tm 0 = .pointer (some ⟨b, 0, none⟩) ∧ fget tm 1 = .string s ∧ Hx E b (fnv x ((strB s).take i)) h h') s.size ?_ ?_
  · exact ⟨0, by omega, by omega, by simp only [push_cast, seval, hE.P, zz], by simp only [push_cast, seval, hE.P, zz], by simp only [push_cast, seval, hE.P, zz], by simp only [push_cast, seval, hE.P, zz], Hx.refl hg hW⟩
  · rintro m tm h1 ⟨i, rfl, hi, f7, f6, f0, f1, S⟩
    simp only [push_cast, seval, hE.P, zz, f7, f6]
    refine kif_split (fun hb => ?_) (fun hb => ?_)
    · have hlt : i < s.size := by simpa using hb
      have hc := S.cell
      obtain ⟨y, hy⟩ : ∃ y, y = fnv x ((strB s).take i) := ⟨_, rfl⟩
      have hyl : y < 18446744073709551616 := by rw [hy]; exact fnv_lt _ _ hx
      rw [← hy] at hc
      obtain ⟨c, hcc⟩ : ∃ c, c = (s.data.toList.getD i 0).toNat := ⟨_, rfl⟩
      have hc256 : c < 256 := by rw [hcc]; exact UInt8.toNat_lt _
      have hix := aidx (k := .i64) hlt
      rw [← hcc] at hix
      have hst := fnv1_eq hyl hc256
      have e0 : IntKind.u64.wrap (c : Int) = c := wruN (by omega)
      obtain ⟨i1, hi1⟩ : ∃ i1, i1 = i + 1 := ⟨_, rfl⟩
      have e1 : (i : Int) + 1 = i1 := by omega
      have e2 : IntKind.i64.wrap (i1 : Int) = i1 := wrN (by omega)
      simp only [push_cast, seval, hE.P, zz, f7]
      refine wdraw_calm (by rw [hE.P]; decide +kernel) ?_
      simp only [push_cast, seval, hE.P, zz, f7, f6, f0, f1, hc, nb, hix, e0, hst, e1, e2]
      refine ⟨s.size - i1, by omega, i1, rfl, by omega, rfl, ?_⟩
      have e3 : fnv x ((strB s).take i1) = fnv1 y c := by rw [hi1, strB_at hlt, fnv_app, fnv_one, ← hy, ← hcc]
      rw [e3]
      exact ⟨by rw [get_put, if_pos rfl], fun j o hj hg => by rw [get_put, if_neg (Ne.symm hj)]; exact S.keep j o hj hg, by have := S.next; simp; omega, S.wf.put hc⟩
    · have hge : i = s.size := by have : ¬ i < s.size := by simpa using hb
                                  omega
      rw [hge, List.take_of_length_le (by rw [strB_len]; omega)] at S
      simp only [push_cast, seval, hE.P, zz]
      exact S
theorem hbyte_at {h : Heap} (hW : WF E h) {b x c : Nat} (hg : h.get b = some (.cells [.int .u64 (x : Int)] 173 true)) (hx : x < 18446744073709551616) (hc : c < 256) :
    CallsTo E 156 [.pointer (some ⟨b, 0, none⟩), .int .u8 (c : Int)] h fun v h' => v = .tuple #[] ∧ Hx E b (fnv1 x c) h h' := by
  have hlt := (hW.live _ _ hg).2
  refine en hE Tryz.func156 rfl rfl Tryz.ntmps156 rfl (by decide +kernel) (rs := []) rfl ?_
  simp only [push_cast, seval, hE.P, zz]
  rw [bs66 rfl, kalloc_some]
  have w1 := hW.push (.cells [.int .u8 (c : Int)] 5 true)
  have k1 := (Keep.refl h).push (o := .cells [.int .u8 (c : Int)] 5 true) hW
  have hown : Own (h.push (.cells [.int .u8 (c : Int)] 5 true)) 5 1 h.next 1 (u8s [c]) (.slice (some ⟨h.next, 0, none⟩) 1 1) := .inr ⟨h.next, 1, [], true, rfl, by simp [get_push, u8s], rfl, rfl, Nat.le_refl _, Nat.le_refl _, by omega⟩
  have ev : vcells (.int .u8 (c : Int)) = [.int .u8 (c : Int)] := rfl
  rw [ev]
  have hg1 := k1.get _ _ hg
  generalize h.push (.cells [.int .u8 (c : Int)] 5 true) = H1 at *
  obtain ⟨G1, hsl, hfz, _⟩ := own_sl w1 hown
  have hcv := fun ev x he => conv_at hE hfz (l := [c]) (n := 1) rfl hsl (fun a cc e => by cases e) (ev := ev) (x := x) he
  simp only [push_cast, seval, hE.P, zz]
  rw [hcv _ _ (by simp only [push_cast, seval, hE.P, zz]), kpure_some]
  obtain ⟨s, hs⟩ : ∃ s : ByteArray, s = ⟨([c].map UInt8.ofNat).toArray⟩ := ⟨_, rfl⟩
  have hsb : strB s = [c] := by
    rw [hs]; unfold strB
    simp only [List.map_cons, List.map_nil]
    rw [UInt8.toNat_ofNat_of_lt' (by omega)]
  have hsz : s.size = 1 := by rw [← strB_len, hsb]; rfl
  rw [← hs]
  simp only [push_cast, seval, hE.P, zz]
  refine (hbytes_at hE w1 hg1 hx (by omega)).mono ?_
  rintro v h2 ⟨rfl, S⟩
  rw [hsb, fnv_one] at S
  simp only [push_cast, seval, hE.P, zz]
  exact Hx.of k1 S
omit hE in
theorem or128 (m : Nat) (h : m < 256) : bits .or .u8 (m : Int) 128 = ((m % 128 + 128 : Nat) : Int) := by
  have key : ∀ m : Fin 256, bits .or .u8 ((m.1 : Nat) : Int) 128 = ((m.1 % 128 + 128 : Nat) : Int) := by decide +kernel
  exact key ⟨m, h⟩
theorem hnumber_at {h : Heap} (hW : WF E h) {b x n : Nat} (hg : h.get b = some (.cells [.int .u64 (x : Int)] 173 true)) (hx : x < 18446744073709551616) (hn : n < 18446744073709551616) :
    CallsTo E 157 [.pointer (some ⟨b, 0, none⟩), .int .u64 (n : Int)] h fun v h' => v = .tuple #[] ∧ Hx E b (fnv x (varB n)) h h' := by
  refine en hE Tryz.func157 rfl rfl Tryz.ntmps157 rfl (by decide +kernel) (rs := []) rfl ?_
  simp only [push_cast, seval, hE.P, zz]
  refine wpc_loop (fun m tm h' => ∃ y : Nat, m < 18446744073709551616 ∧ y < 18446744073709551616 ∧ fget tm 1 = .int .u64 m ∧ fget tm 0 = .pointer (some ⟨b, 0, none⟩) ∧ Hx E b y h h' ∧ fnv y (varB m) = fnv x (varB n)) n ?_ ?_
  · exact ⟨x, hn, hx, by simp only [push_cast, seval, hE.P, zz], by simp only [push_cast, seval, hE.P, zz], Hx.refl hg hW, rfl⟩
  · rintro k tm h1 ⟨y, hk, hy, f1, f0, S, hf⟩
    have u8w : ∀ m : Nat, IntKind.u8.wrap (m : Int) = ((m % 256 : Nat) : Int) := fun m => by unfold IntKind.wrap; simp [IntKind.signed, IntKind.bits]
    have e0 := u8w k
    obtain ⟨q, hq⟩ : ∃ q, q = k % 256 := ⟨_, rfl⟩
    have e1 := or128 q (by omega)
    have e2 : q % 128 + 128 = k % 128 + 128 := by omega
    rw [e2] at e1
    rw [← hq] at e0
    obtain ⟨c, hc⟩ : ∃ c, c = k % 128 + 128 := ⟨_, rfl⟩
    rw [← hc] at e1
    simp only [push_cast, seval, hE.P, zz, f1]
    refine kif_split (fun hb => ?_) (fun hb => ?_)
    · have hge : 128 ≤ k := by have : (128 : Int) ≤ k := by simpa using hb
                               omega
      simp only [push_cast, seval, hE.P, zz, f1, f0, e0, e1]
      refine (hbyte_at hE S.wf S.cell hy (c := c) (by omega)).mono ?_
      rintro v h2 ⟨rfl, S2⟩
      simp only [push_cast, seval, hE.P, zz, f1, f0]
      refine ⟨k / 128, by omega, fnv1 y c, by omega, fnv1_lt _ _, ?_, S.trans S2, ?_⟩
      · have e5 := shr_nat' (m := k) (b := 7) (by omega)
        exact congrArg _ e5
      · rw [← hf, varB_eq k, if_neg (by omega), fnv_cons, ← hc]
    · have hlt : k < 128 := by have : ¬ (128 : Int) ≤ k := by simpa using hb
                               omega
      rw [varB_eq, if_pos hlt, fnv_one] at hf
      have e3 : q = k := by omega
      rw [e3] at e0
      simp only [push_cast, seval, hE.P, zz, f1, f0, e0]
      refine (hbyte_at hE S.wf S.cell hy (c := k) (by omega)).mono ?_
      rintro v h2 ⟨rfl, S2⟩
      rw [hf] at S2
      simp only [push_cast, seval, hE.P, zz]
      exact S.trans S2
end Go.Proofs.YthfopcdammlmfaaGreatDoor
/- The hash of a value is that of its bytes. -/
namespace Go.Proofs.YthfopcdammlmfaaGreatDoor
open Go.Tm
variable {E : Env} (hE : EOk E)
include hE
theorem hvalue_at : ∀ (n : Nat) (V : Vl), V.sz ≤ n → ∀ {G : Mem} {h : Heap}, WF E h → Frz E G h → ∀ {c : List Value}, Rep E G V c → ∀ {b x : Nat}, h.get b = some (.cells [.int .u64 (x : Int)] 173 true) → x < 18446744073709551616 → G b = none →
    CallsTo E 126 [.pointer (some ⟨b, 0, none⟩), .agg c.toArray] h fun v h' => v = .tuple #[] ∧ Hx E b (fnv x (bytesV V)) h h' := by
  intro n
  induction n with
  | zero => intro V hn; have := sz_eq V; omega
  | succ n ih =>
    intro V hn G h hW hG c hV b x hg hx hGb
    have hbe := bytesV_eq V
    obtain ⟨sl, sf, cl, cf, rfl, hsl, hsf, hl, hf, hb1, hb2, hb3⟩ := hV.cells
    obtain ⟨a2, cap2, rfl, _, _⟩ := hsl.slice
    obtain ⟨a3, cap3, rfl, _, _⟩ := hsf.slice
    have hblt := (hW.live _ _ hg).2
    have u8lt : ∀ z : Int, u8N z < 256 := fun z => by
      have h1 : 0 ≤ IntKind.u8.wrap z ∧ IntKind.u8.wrap z < 256 := by unfold IntKind.wrap; simp [IntKind.signed, IntKind.bits]; omega
      unfold u8N; omega
    refine en hE Tryz.func126 rfl rfl Tryz.ntmps126 rfl (by decide +kernel) (rs := []) rfl ?_
    simp only [push_cast, seval, hE.P, zz, hW.nb, hW.nb0]
    have g0 : (h.push (.cells [.int .i64 V.k, .int .i64 V.n, .string V.s, .slice a2 V.l.length cap2, .slice a3 V.f.length cap3] 25 true)).get h.next = some (.cells [.int .i64 V.k, .int .i64 V.n, .string V.s, .slice a2 V.l.length cap2, .slice a3 V.f.length cap3] 25 true) := by simp only [get_push, if_true]
    have k0 : Keep h (h.push (.cells [.int .i64 V.k, .int .i64 V.n, .string V.s, .slice a2 V.l.length cap2, .slice a3 V.f.length cap3] 25 true)) := (Keep.refl h).push hW
    have w0 : WF E (h.push (.cells [.int .i64 V.k, .int .i64 V.n, .string V.s, .slice a2 V.l.length cap2, .slice a3 V.f.length cap3] 25 true)) := hW.push _
    generalize h.push (.cells [.int .i64 V.k, .int .i64 V.n, .string V.s, .slice a2 V.l.length cap2, .slice a3 V.f.length cap3] 25 true) = H at *
    rw [u8N_cast]
    refine (hbyte_at hE w0 (k0.get _ _ hg) hx (u8lt _)).mono ?_
    rintro v h1 ⟨rfl, S1'⟩
    have S1 := Hx.of k0 S1'
    have g1 := S1'.keep _ _ (by omega) g0
    have x1l := fnv1_lt x (u8N V.k)
    rw [hbe, fnv_cons]
    clear hbe
    generalize fnv1 x (u8N V.k) = x1 at *
    simp only [push_cast, seval, hE.P, zz, g1, hW.nb0]
    refine kif_split (fun hb => ?_) (fun hb => ?_)
    · have hk : V.k = 2 := by simpa using hb
      rw [if_pos hk, fnv_one]
      simp only [push_cast, seval, hE.P, zz, g1, hW.nb0]
      rw [u8N_cast]
      refine (hbyte_at hE S1.wf S1.cell x1l (u8lt _)).mono ?_
      rintro v h2 ⟨rfl, S2⟩
      simp only [push_cast, seval, hE.P, zz]
      exact S1.trans S2
    have hk2 : V.k ≠ 2 := by simpa using hb
    rw [if_neg hk2]
    simp only [push_cast, seval, hE.P, zz]
    refine kif_split (fun hb => ?_) (fun hb => ?_)
    · have hk : V.k = 3 := by simpa using hb
      rw [if_pos hk]
      simp only [push_cast, seval, hE.P, zz, g1, hW.nb0]
      refine (turned_at hE hb3.1 hb3.2).mono ?_
      rintro v h2 ⟨rfl, rfl⟩
      simp only [push_cast, seval, hE.P, zz]
      refine (hnumber_at hE S1.wf S1.cell x1l (turned_lt hb3.1 hb3.2)).mono ?_
      rintro v h2 ⟨rfl, S2⟩
      simp only [push_cast, seval, hE.P, zz]
      exact S1.trans S2
    have hk3 : V.k ≠ 3 := by simpa using hb
    rw [if_neg hk3]
    simp only [push_cast, seval, hE.P, zz]
    refine kif_split (fun hb => ?_) (fun hb => ?_)
    · have hk : V.k = 4 := by simpa using hb
      rw [if_pos hk, fnv_app]
      have e0 : IntKind.u64.wrap (V.s.size : Int) = V.s.size := wruN (by omega)
      simp only [push_cast, seval, hE.P, zz, g1, hW.nb0, e0]
      refine (hnumber_at hE S1.wf S1.cell x1l (n := V.s.size) (by omega)).mono ?_
      rintro v h2 ⟨rfl, S2⟩
      have g2 := S2.keep _ _ (by omega) g1
      have x2l := fnv_lt (varB V.s.size) _ x1l
      simp only [push_cast, seval, hE.P, zz, g2, hW.nb0]
      refine (hbytes_at hE S2.wf S2.cell x2l hb1.1).mono ?_
      rintro v h3 ⟨rfl, S3⟩
      simp only [push_cast, seval, hE.P, zz]
      exact (S1.trans S2).trans S3
    have hk4 : V.k ≠ 4 := by simpa using hb
    rw [if_neg hk4]
    simp only [push_cast, seval, hE.P, zz]
    refine kif_split (fun hb => ?_) (fun hb => ?_)
    · have hk : V.k = 5 := by simpa using hb
      rw [if_pos hk, fnv_app]
      have e0 : IntKind.u64.wrap (V.l.length : Int) = V.l.length := wruN (by omega)
      simp only [push_cast, seval, hE.P, zz, g1, hW.nb0, e0]
      refine (hnumber_at hE S1.wf S1.cell x1l (n := V.l.length) (by omega)).mono ?_
      rintro v h2 ⟨rfl, S2⟩
      have g2 := S2.keep _ _ (by omega) g1
      have x2l := fnv_lt (varB V.l.length) _ x1l
      have S12 := S1.trans S2
      generalize fnv x1 (varB V.l.length) = x2 at *
      simp only [push_cast, seval, hE.P, zz, g2, hW.nb0]
      refine wpc_loop (fun m tm h' => ∃ i : Nat, m = V.l.length - i ∧ i ≤ V.l.length ∧ fget tm 52 = .int .i64 i ∧ fget tm 51 = .int .i64 V.l.length ∧ fget tm 50 = .slice a2 V.l.length cap2 ∧ fget tm 0 = .pointer (some ⟨b, 0, none⟩) ∧ Hx E b (fnv x2 (bytesL (V.l.take i))) h h') V.l.length ?_ ?_
      · exact ⟨0, by omega, by omega, by simp only [push_cast, seval, hE.P, zz], by simp only [push_cast, seval, hE.P, zz], by simp only [push_cast, seval, hE.P, zz], by simp only [push_cast, seval, hE.P, zz], by simpa [bytesL, fnv] using S12⟩
      · rintro m tm h3 ⟨i, rfl, hi, f52, f51, f50, f0, S⟩
        simp only [push_cast, seval, hE.P, zz, f52, f51]
        refine kif_split (fun hb => ?_) (fun hb => ?_)
        · have hlt : i < V.l.length := by simpa using hb
          have hG3 := S.frz hG hGb
          obtain ⟨a, c, e1', hsp, hac⟩ := hsl.elem hG3 hlt
          injection e1' with e1' e2' e3'
          subst e1'; subst e3'
          have hrc := hl.at i V.l[i] (by simp [hlt])
          have hrcC := hrc
          obtain ⟨sl', sf', cl', cf', hce, hsl', hsf', _⟩ := hrc.cells
          rw [hce] at hac hrcC
          obtain ⟨a4, cap4, rfl, _, _⟩ := hsl'.slice
          obtain ⟨a5, cap5, rfl, _, _⟩ := hsf'.slice
          obtain ⟨i1, hi1⟩ : ∃ i1, i1 = i + 1 := ⟨_, rfl⟩
          have e1 : (i : Int) + 1 = i1 := by omega
          have e2 : IntKind.i64.wrap (i1 : Int) = i1 := wrN (by omega)
          simp only [push_cast, seval, hE.P, zz, f52, f50, f0]
          rw [ia22 hsp (by omega) (by omega), kpure_some]
          simp only [push_cast, seval, hE.P, zz, f52, f50, f0, ↓hac, S.wf.nb, S.wf.nb0]
          have hps := l_sz (v := V) (x := V.l[i]) (by simp)
          have kp := (Keep.refl h3).push (o := .cells [.int .i64 V.l[i].k, .int .i64 V.l[i].n, .string V.l[i].s, .slice a4 V.l[i].l.length cap4, .slice a5 V.l[i].f.length cap5] 25 true) S.wf
          have xl := fnv_lt (bytesL (V.l.take i)) _ x2l
          refine (ih V.l[i] (by omega) (S.wf.push _) (hG3.keep kp) hrcC (kp.get _ _ S.cell) xl hGb).mono ?_
          rintro v h4 ⟨rfl, S4⟩
          simp only [push_cast, seval, hE.P, zz, f52, f51, f50, f0, e1, e2]
          refine ⟨V.l.length - i1, by omega, i1, rfl, by omega, rfl, ?_⟩
          rw [hi1, bytesL_take hlt, fnv_app]
          exact S.trans (Hx.of kp S4)
        · have hge : i = V.l.length := by have : ¬ i < V.l.length := by simpa using hb
                                          omega
          rw [hge, List.take_length] at S
          simp only [push_cast, seval, hE.P, zz]
          exact S
    have hk5 : V.k ≠ 5 := by simpa using hb
    rw [if_neg hk5]
    simp only [push_cast, seval, hE.P, zz]
    refine kif_split (fun hb => ?_) (fun hb => ?_)
    · have hk : V.k = 6 := by simpa using hb
      rw [if_pos hk, fnv_app]
      have e0 : IntKind.u64.wrap (V.f.length : Int) = V.f.length := wruN (by omega)
      simp only [push_cast, seval, hE.P, zz, g1, hW.nb0, e0]
      refine (hnumber_at hE S1.wf S1.cell x1l (n := V.f.length) (by omega)).mono ?_
      rintro v h2 ⟨rfl, S2⟩
      have g2 := S2.keep _ _ (by omega) g1
      have x2l := fnv_lt (varB V.f.length) _ x1l
      have S12 := S1.trans S2
      generalize fnv x1 (varB V.f.length) = x2 at *
      simp only [push_cast, seval, hE.P, zz, g2, hW.nb0]
      refine wpc_loop (fun m tm h' => ∃ i : Nat, m = V.f.length - i ∧ i ≤ V.f.length ∧ fget tm 71 = .int .i64 i ∧ fget tm 70 = .int .i64 V.f.length ∧ fget tm 69 = .slice a3 V.f.length cap3 ∧ fget tm 0 = .pointer (some ⟨b, 0, none⟩) ∧ Hx E b (fnv x2 (bytesF (V.f.take i))) h h') V.f.length ?_ ?_
      · exact ⟨0, by omega, by omega, by simp only [push_cast, seval, hE.P, zz], by simp only [push_cast, seval, hE.P, zz], by simp only [push_cast, seval, hE.P, zz], by simp only [push_cast, seval, hE.P, zz], by simpa [bytesF, fnv] using S12⟩
      · rintro m tm h3 ⟨i, rfl, hi, f71, f70, f69, f0, S⟩
        simp only [push_cast, seval, hE.P, zz, f71, f70]
        refine kif_split (fun hb => ?_) (fun hb => ?_)
        · have hlt : i < V.f.length := by simpa using hb
          have hG3 := S.frz hG hGb
          obtain ⟨a, c, e1', hsp, hac⟩ := hsf.elem hG3 hlt
          injection e1' with e1' e2' e3'
          subst e1'; subst e3'
          obtain ⟨c1, hc1, hrc, hnm⟩ := hf.at i V.f[i].1 V.f[i].2 (List.getElem?_eq_getElem hlt)
          have hrcC := hrc
          rw [hc1] at hac
          obtain ⟨sl', sf', cl', cf', hce, hsl', hsf', _⟩ := hrc.cells
          rw [hce] at hac hrcC
          obtain ⟨a4, cap4, rfl, _, _⟩ := hsl'.slice
          obtain ⟨a5, cap5, rfl, _, _⟩ := hsf'.slice
          obtain ⟨i1, hi1⟩ : ∃ i1, i1 = i + 1 := ⟨_, rfl⟩
          have e1 : (i : Int) + 1 = i1 := by omega
          have e2 : IntKind.i64.wrap (i1 : Int) = i1 := wrN (by omega)
          simp only [push_cast, seval, hE.P, zz, f71, f69, f0]
          rw [ia23 hsp (by omega) (by omega), kpure_some]
          simp only [push_cast, seval, hE.P, zz, f71, f69, f0, ↓hac, S.wf.nb, S.wf.nb0]
          have hps := f_sz (v := V) (x := V.f[i]) (by simp)
          have kp := (Keep.refl h3).push (o := .cells [.string V.f[i].1, .int .i64 V.f[i].2.k, .int .i64 V.f[i].2.n, .string V.f[i].2.s, .slice a4 V.f[i].2.l.length cap4, .slice a5 V.f[i].2.f.length cap5] 91 true) S.wf
          have wp := S.wf.push (.cells [.string V.f[i].1, .int .i64 V.f[i].2.k, .int .i64 V.f[i].2.n, .string V.f[i].2.s, .slice a4 V.f[i].2.l.length cap4, .slice a5 V.f[i].2.f.length cap5] 91 true)
          have gp : (h3.push (.cells [.string V.f[i].1, .int .i64 V.f[i].2.k, .int .i64 V.f[i].2.n, .string V.f[i].2.s, .slice a4 V.f[i].2.l.length cap4, .slice a5 V.f[i].2.f.length cap5] 91 true)).get h3.next = some (.cells [.string V.f[i].1, .int .i64 V.f[i].2.k, .int .i64 V.f[i].2.n, .string V.f[i].2.s, .slice a4 V.f[i].2.l.length cap4, .slice a5 V.f[i].2.f.length cap5] 91 true) := by simp only [get_push, if_true]
          generalize h3.push (.cells [.string V.f[i].1, .int .i64 V.f[i].2.k, .int .i64 V.f[i].2.n, .string V.f[i].2.s, .slice a4 V.f[i].2.l.length cap4, .slice a5 V.f[i].2.f.length cap5] 91 true) = H3 at *
          have xl := fnv_lt (bytesF (V.f.take i)) _ x2l
          have e6 : IntKind.u64.wrap (V.f[i].1.size : Int) = V.f[i].1.size := wruN (by omega)
          have hne : h3.next ≠ b := by have := (S.wf.live _ _ S.cell).2; omega
          simp only [e6]
          refine (hnumber_at hE wp (kp.get _ _ S.cell) xl (n := V.f[i].1.size) (by omega)).mono ?_
          rintro v h4 ⟨rfl, S4⟩
          have g4 := S4.keep _ _ hne gp
          have xl4 := fnv_lt (varB V.f[i].1.size) _ xl
          simp only [push_cast, seval, hE.P, zz, f0, g4, S.wf.nb0]
          refine (hbytes_at hE S4.wf S4.cell xl4 hnm).mono ?_
          rintro v h5 ⟨rfl, S5⟩
          have g5 := S5.keep _ _ hne g4
          have xl5 := fnv_lt (strB V.f[i].1) _ xl4
          simp only [push_cast, seval, hE.P, zz, f0, g5, S.wf.nb, S.wf.nb0]
          refine (ih V.f[i].2 (by omega) S5.wf ((S4.trans S5).frz (hG3.keep kp) hGb) hrcC S5.cell xl5 hGb).mono ?_
          rintro v h6 ⟨rfl, S6⟩
          simp only [push_cast, seval, hE.P, zz, f71, f70, f69, f0, e1, e2]
          refine ⟨V.f.length - i1, by omega, i1, rfl, by omega, rfl, ?_⟩
          rw [hi1, bytesF_take hlt, fnv_app, fnv_app, fnv_app]
          exact S.trans (Hx.of kp ((S4.trans S5).trans S6))
        · have hge : i = V.f.length := by have : ¬ i < V.f.length := by simpa using hb
                                          omega
          rw [hge, List.take_length] at S
          simp only [push_cast, seval, hE.P, zz]
          exact S
    have hk6 : V.k ≠ 6 := by simpa using hb
    rw [if_neg hk6]
    simp only [push_cast, seval, hE.P, zz]
    exact S1
end Go.Proofs.YthfopcdammlmfaaGreatDoor
namespace Go.Proofs.YthfopcdammlmfaaGreatDoor
open Go.Tm
def fnvB : Nat := 14695981039346656037
variable {E : Env} (hE : EOk E)
include hE
theorem hash_at {V : Vl} (hz : V.sz ≤ 10000) (hg : goodV V = 0) {G : Mem} {h : Heap} (hW : WF E h) (hG : Frz E G h) {c : List Value} (hV : Rep E G V c) : CallsTo E 75 [.agg c.toArray] h fun v h' => v = .tuple #[.int .u64 (fnv fnvB (bytesV V) : Nat), .int .i64 0] ∧ Keep h h' ∧ WF E h' := by
  have hV0 := hV
  obtain ⟨sl, sf, cl, cf, rfl, hsl, hsf, _⟩ := hV.cells
  obtain ⟨va, vk, rfl, _, _⟩ := hsl.slice
  obtain ⟨wa, wk, rfl, _, _⟩ := hsf.slice
  refine en hE Tryz.func75 rfl rfl Tryz.ntmps75 rfl (by decide +kernel) (rs := [.tmp 2, .tmp 3]) rfl ?_
  simp only [push_cast, seval, hE.P, zz, hW.nb, hW.nb0]
  have w1 := hW.push (.cells [.int .i64 V.k, .int .i64 V.n, .string V.s, .slice va V.l.length vk, .slice wa V.f.length wk] 25 true)
  have k1 := (Keep.refl h).push (o := .cells [.int .i64 V.k, .int .i64 V.n, .string V.s, .slice va V.l.length vk, .slice wa V.f.length wk] 25 true) hW
  have g1 : (h.push (.cells [.int .i64 V.k, .int .i64 V.n, .string V.s, .slice va V.l.length vk, .slice wa V.f.length wk] 25 true)).get h.next = some (.cells [.int .i64 V.k, .int .i64 V.n, .string V.s, .slice va V.l.length vk, .slice wa V.f.length wk] 25 true) := by rw [get_push, if_pos rfl]
  generalize h.push (.cells [.int .i64 V.k, .int .i64 V.n, .string V.s, .slice va V.l.length vk, .slice wa V.f.length wk] 25 true) = H1 at *
  refine (good_at hE hz w1 (hG.keep k1) hV0).mono ?_
  rintro v h2 ⟨rfl, k2', w2⟩
  have g2 := k2'.get _ _ g1
  have k2 := k1.trans k2'
  rw [hg]
  have k3 := k2.push (o := .cells [.int .u64 ((fnvB : Nat) : Int)] 173 true) w2
  have w3 := w2.push (.cells [.int .u64 ((fnvB : Nat) : Int)] 173 true)
  have hlt := (w2.live _ _ g2).2
  have hne : ¬ h2.next = h.next := by omega
  simp only [push_cast, seval, hE.P, zz, w2.nb, w2.nb0, g2, hne, hW.nb0]
  have eB : (14695981039346656037 : Int) = ((fnvB : Nat) : Int) := rfl
  rw [eB]
  have g3 : (h2.push (.cells [.int .u64 ((fnvB : Nat) : Int)] 173 true)).get h2.next = some (.cells [.int .u64 ((fnvB : Nat) : Int)] 173 true) := by rw [get_push, if_pos rfl]
  refine (hvalue_at hE V.sz V (Nat.le_refl _) w3 (hG.keep k3) hV0 g3 (by decide) ?_).mono ?_
  · cases hc : G h2.next with
    | none => rfl
    | some c =>
      obtain ⟨e, fx, hh⟩ := hG _ _ hc
      have := (hW.live _ _ hh).2; have := k2.next; omega
  rintro v h4 ⟨rfl, S⟩
  have hc := S.cell
  simp only [push_cast, seval, hE.P, zz, hc, w2.nb0]
  exact ⟨⟨fun j o hj => S.keep j o (by have := (hW.live _ _ hj).2; have := k2.next; omega) (k3.get _ _ hj), by have := S.next; have := k3.next; omega⟩, S.wf⟩
theorem hashD_at {h : Heap} {L : HL} {W nS : Nat} {R : List Nat} {O : List Ob} (H : IsO E h L W nS R O) (hW : WF E h) {x : Nat} (hx : x < 18446744073709551616) {V : Vl} (hr : Rd O 2048 [] (.obj x) (V, 0)) (hg : goodV V = 0) :
    CallsTo E 27 [.pointer (some ⟨L.ph, 0, none⟩), .int .u64 x] h fun v h' => v = .tuple #[.int .u64 (fnv fnvB (bytesV V) : Nat), .int .i64 0] ∧ Keep h h' ∧ WF E h' := by
  refine en hE Tryz.func27 rfl rfl Tryz.ntmps27 rfl (by decide +kernel) (rs := [.tmp 4, .tmp 5]) rfl ?_
  simp only [push_cast, seval, hE.P, zz]
  refine (read_at hE H hW hx).mono ?_
  rintro v h1 ⟨V', e, c, G, rfl, hro, hsz, hrep, hfr, hnew, k1, w1⟩
  obtain ⟨rfl, rfl⟩ := ReadO.of hr hg hro
  have hrepC := hrep
  obtain ⟨sl, sf, cl, cf, rfl, hsl, hsf, _⟩ := hrep.cells
  obtain ⟨a2, cap2, rfl, _, _⟩ := hsl.slice
  obtain ⟨a3, cap3, rfl, _, _⟩ := hsf.slice
  have k2 := k1.push (o := .cells [.int .i64 V'.k, .int .i64 V'.n, .string V'.s, .slice a2 V'.l.length cap2, .slice a3 V'.f.length cap3] 25 true) w1
  have k2' := (Keep.refl h1).push (o := .cells [.int .i64 V'.k, .int .i64 V'.n, .string V'.s, .slice a2 V'.l.length cap2, .slice a3 V'.f.length cap3] 25 true) w1
  have w2 := w1.push (.cells [.int .i64 V'.k, .int .i64 V'.n, .string V'.s, .slice a2 V'.l.length cap2, .slice a3 V'.f.length cap3] 25 true)
  simp only [push_cast, seval, hE.P, zz, w1.nb, w1.nb0]
  refine (hash_at hE (V := V') (by omega) hg w2 (hfr.keep k2') hrepC).mono ?_
  rintro v h3 ⟨rfl, k3, w3⟩
  simp only [push_cast, seval, hE.P, zz]
  exact ⟨k2.trans k3, w3⟩
theorem firstR_at {h : Heap} : CallsTo E 33 [] h fun v h' => v = .int .u64 (fnvB : Nat) ∧ h' = h := by
  refine en hE Tryz.func33 rfl rfl Tryz.ntmps33 rfl (by decide +kernel) (rs := [.tmp 0]) rfl ?_
  simp only [push_cast, seval, hE.P, zz]
  rfl
theorem moreR_at {h : Heap} (hW : WF E h) {x : Nat} (hx : x < 18446744073709551616) {l : List Nat} (hl : ∀ y, y ∈ l → y < 256) {e lo : Nat} {v : Value} (ho : Own h e 1 lo l.length (u8s l) v) : CallsTo E 32 [.int .u64 x, v] h fun v h' => v = .int .u64 (fnv x l : Nat) ∧ h' = h := by
  obtain ⟨va, vk, rfl, hcap⟩ := Own.slice ho
  obtain ⟨G1, hsl, hfz, _⟩ := own_sl hW ho
  have hlen : l.length ≤ 9223372036854775807 := by
    obtain ⟨a, c, e1, e2, e3, _⟩ := hsl
    injection e1 with _ _ e1; subst e1; omega
  refine en hE Tryz.func32 rfl rfl Tryz.ntmps32 rfl (by decide +kernel) (rs := [.tmp 4]) rfl ?_
  simp only [push_cast, seval, hE.P, zz]
  refine wpc_loop (fun m tm h' => ∃ i : Nat, m = l.length - i ∧ i ≤ l.length ∧ fget tm 5 = .int .i64 i ∧ fget tm 1 = .slice va l.length vk ∧ fget tm 0 = .int .u64 (fnv x (l.take i) : Nat) ∧ h' = h) l.length ?_ ?_
  · exact ⟨0, by omega, by omega, by simp only [push_cast, seval, hE.P, zz], by simp only [push_cast, seval, hE.P, zz], by simp only [push_cast, seval, hE.P, zz]; rfl, rfl⟩
  · rintro m tm h1 ⟨i, rfl, hi, f5, f1, f0, rfl⟩
    simp only [push_cast, seval, hE.P, zz, f5, f1]
    refine kif_split (fun hb => ?_) (fun hb => ?_)
    · have hlt : i < l.length := by simpa using hb
      obtain ⟨a, c, e1', hsp, hac⟩ := hsl.elem hfz hlt
      injection e1' with e1' e2' e3'; subst e1'; subst e3'
      have hat : ((u8s l).drop (i * 1)).take 1 = [.int .u8 (l[i] : Nat)] := by
        unfold u8s
        rw [Nat.mul_one, List.drop_eq_getElem_cons (by simp; omega)]; simp
      rw [hat, Nat.mul_one] at hac
      obtain ⟨y, hy⟩ : ∃ y, y = fnv x (l.take i) := ⟨_, rfl⟩
      have hyl : y < 18446744073709551616 := by rw [hy]; exact fnv_lt _ _ hx
      obtain ⟨b, hb2⟩ : ∃ b, b = l[i] := ⟨_, rfl⟩
      have hb256 : b < 256 := by rw [hb2]; exact hl _ (List.getElem_mem hlt)
      rw [← hb2] at hac
      rw [← hy] at f0
      have hst := fnv1_eq hyl hb256
      have e0 : IntKind.u64.wrap (b : Int) = b := wruN (by omega)
      obtain ⟨i1, hi1⟩ : ∃ i1, i1 = i + 1 := ⟨_, rfl⟩
      have e1 : (i : Int) + 1 = i1 := by omega
      have e2 : IntKind.i64.wrap (i1 : Int) = i1 := wrN (by omega)
      simp only [push_cast, seval, hE.P, zz, f5, f1, f0]
      rw [ia66 hsp (by omega) (by omega), kpure_some]
      simp only [push_cast, seval, hE.P, zz, f5, f1, f0, ↓hac, e0, hst, e1, e2]
      refine ⟨l.length - i1, by omega, i1, rfl, by omega, rfl, ?_⟩
      rw [hi1, List.take_succ_eq_append_getElem hlt, fnv_app, fnv_one, ← hy, ← hb2]
    · have hge : i = l.length := by have : ¬ i < l.length := by simpa using hb
                                    omega
      rw [hge, List.take_length] at f0
      simp only [push_cast, seval, hE.P, zz, f0]
end Go.Proofs.YthfopcdammlmfaaGreatDoor
