/- The heap: a root set; the table's live handles; the arena's objects in their order. -/
/- Merged by a program of ours: R1 R2 Q1. -/
import Derived.Test.YthfopcdammlmfaaGreatDoorC6
import Derived.Test.YthfopcdammlmfaaGreatDoorA9
set_option maxRecDepth 10000
set_option linter.all false
set_option linter.unusedSimpArgs false
set_option linter.unusedVariables false
/- The reader: an object. -/
namespace Go.Proofs.YthfopcdammlmfaaGreatDoor
open Go.Tm
theorem Own.put {h : Heap} {e z lo n : Nat} {cs : List Value} {v : Value} {b : Nat} {o : AObj} (H : Own h e z lo n cs v) (hb : b < lo) : Own (h.put b o) e z lo n cs v := by
 rcases H with H | ⟨b', cap, rest, fx, rfl, hg, h1, h2, h3, h4, h5⟩
 ·exact .inl H
 ·exact .inr ⟨b', cap, rest, fx, rfl, by rw [get_put, if_neg (by omega)]; exact hg, h1, h2, h3, h4, h5⟩
theorem Own.low {h : Heap} {e z lo lo' n : Nat} {cs : List Value} {v : Value} (H : Own h e z lo n cs v) (hb : lo' ≤ lo) : Own h e z lo' n cs v := by
 rcases H with H | ⟨b', cap, rest, fx, rfl, hg, h1, h2, h3, h4, h5⟩
 ·exact .inl H
 ·exact .inr ⟨b', cap, rest, fx, rfl, hg, h1, h2, h3, by omega, h5⟩
theorem Own.slice {h : Heap} {e z lo n : Nat} {cs : List Value} {v : Value} (H : Own h e z lo n cs v) : ∃ a c, v = .slice a n c ∧ n ≤ c := by
 rcases H with ⟨rfl, rfl, rfl⟩ | ⟨b', cap, rest, fx, rfl, hg, h1, h2, h3, h4, h5⟩
 ·exact ⟨none, 0, rfl, Nat.le_refl _⟩
 ·exact ⟨_, cap, rfl, h3⟩
variable {E : Env} (hE : EOk E)
include hE
end Go.Proofs.YthfopcdammlmfaaGreatDoor
/- The reader: a text. -/
namespace Go.Proofs.YthfopcdammlmfaaGreatDoor
open Go.Tm
def u8s (l : List Nat) : List Value := l.map fun x : Nat => Value.int .u8 (x : Int)
theorem wbytes_len (w : Nat) : (wbytes w).length = 8 := rfl
theorem wb_at {w b : Nat} (hb : b < 8) : IntKind.u8.wrap ((w / 2 ^ (8 * b) : Nat) : Int) = (((wbytes w)[b]'(by rw [wbytes_len]; exact hb) : Nat) : Int) := by
 have h : ∀ x : Nat, IntKind.u8.wrap (x : Int) = ((x % 256 : Nat) : Int) := fun x => by unfold IntKind.wrap; simp [IntKind.signed, IntKind.bits]
 rw [h]
 rcases (by omega : b = 0 ∨ b = 1 ∨ b = 2 ∨ b = 3 ∨ b = 4 ∨ b = 5 ∨ b = 6 ∨ b = 7) with e | e | e | e | e | e | e | e <;> subst e <;> simp [wbytes]
theorem wbs_len (ws : List Nat) : (ws.flatMap wbytes).length = 8 * ws.length := by
 induction ws with
 | nil => rfl
 | cons w ws ih => rw [List.flatMap_cons, List.length_append, ih, wbytes_len, List.length_cons]; omega
theorem conv_at {E : Env} (hE : EOk E) {G : Mem} {h : Heap} (hG : Frz E G h) {l : List Nat} {n : Nat} (hn : n = l.length) {v : Value} (hs : Sl E G 1 n (u8s l) v) (h0 : ∀ a c, v = .slice (some a) 0 c → acells E h a 0 = some []) {ev : Operand → Value} {x : Operand} (he : ev x = v) :
 aread E h ev (.convert 66 9 x) = some (.string ⟨(l.map UInt8.ofNat).toArray⟩) := by
 obtain ⟨a, c, rfl, h1, h2, h3, h4⟩ := hs
 have hu8 : isU8 Tryz.prog 5 = true := by kernel_rfl
 have hall : (u8s l).all (fun | .int .u8 _ => true | _ => false) = true := by
  rw [List.all_eq_true]; intro y hy
  obtain ⟨z, _, rfl⟩ := List.mem_map.1 hy; rfl
 have hmap : ((u8s l).map fun | .int _ b => UInt8.ofNat b.toNat | _ => 0) = l.map UInt8.ofNat := by
  unfold u8s; rw [List.map_map]; rfl
 unfold aread
 simp only
 rw [he, hE.P, Tryz.underlying66, Tryz.underlying9]
 cases a with
 | none =>
   have : c = 0 := h3.1 rfl
   have hl0 : l = [] := List.length_eq_zero_iff.1 (by omega)
   subst hl0
   simp only [hu8, if_true]; rfl
 | some a =>
   simp only [hu8, if_true]
   have hac : acells E h a n = some (u8s l) := by
    rcases h4 with ⟨h5, h6⟩ | ⟨b, h5, h6⟩
    ·have hl0 : l = [] := List.length_eq_zero_iff.1 (by omega)
     subst h5; subst hl0
     exact h0 a c rfl
    ·injection h5 with h5; subst h5
     have := gcells_acells hG h6
     rwa [Nat.mul_one] at this
   rw [hac]
   exact (if_pos hall).trans (congrArg (fun z : List UInt8 => some (Value.string ⟨z.toArray⟩)) hmap)
theorem sl_tail {E : Env} (hE : EOk E) {G : Mem} {n : Nat} {ws : List Nat} {m : Nat} (hm : m = ws.length + 1) {a : Addr} {c : Nat} (hsp : a.spot = none) (hs : Sl E G 1 m (u64s (n :: ws)) (.slice (some a) m c)) :
 ∃ y, asl Tryz.prog 50 (.slice (some a) m c) (some (.int .i64 1)) none = some y ∧ Sl E G 1 ws.length (u64s ws) y := by
 obtain ⟨a', c', e, h1, h2, h3, h4⟩ := hs
 injection e with e1 _ e3; subst e1; subst e3
 have hb1 : abnd none m c = some m := rfl
 have hb2 : abnd (some (.int .i64 1)) 0 m = some 1 := by unfold abnd; simp only; rw [if_pos (by omega)]; rfl
 have hs1 : asz Tryz.prog 33 = some 1 := sz33
 unfold asl
 rw [Tryz.underlying50]
 simp only [hb1, hb2, hs1, hsp]
 have hm1 : m - 1 = ws.length := by omega
 by_cases hc : 1 < c
 ·rw [if_pos hc, hm1]
  refine ⟨_, rfl, _, _, rfl, by omega, by omega, ⟨fun x => (by cases x), fun b e => ?_⟩, ?_⟩
  ·injection e with e; subst e; exact h3.2 a rfl
  ·rcases h4 with ⟨h5, _⟩ | ⟨b, h5, h6⟩
   ·omega
   ·injection h5 with h5; subst h5
    right
    refine ⟨_, rfl, ?_⟩
    have := gcells_part h6 (i := 1) (m := ws.length * 1) (by omega)
    simp only [addo, hsp, Nat.mul_one] at this ⊢
    rw [this]
    unfold u64s
    rw [List.map_cons, List.drop_succ_cons, List.drop_zero, List.take_of_length_le (by simp)]
 ·rw [if_neg hc, if_pos h1, hm1]
  have hz : ws.length = 0 := by omega
  have hw0 : ws = [] := List.length_eq_zero_iff.1 hz
  refine ⟨_, rfl, _, _, rfl, by omega, by omega, ⟨fun x => (by cases x), fun b e => ?_⟩, .inl ⟨hz, by rw [hw0]; rfl⟩⟩
  injection e with e; subst e; exact h3.2 a rfl
variable {E : Env} (hE : EOk E)
include hE
theorem unpackedT_at {h : Heap} (hW : WF E h) {G : Mem} (hG : Frz E G h) {l : List Nat} (hl8 : l.length ≤ 8192) (hl : ∀ y, y ∈ l → y < 18446744073709551616) {sv : Value} (hs : Sl E G 1 l.length (u64s l) sv) :
 CallsTo E 163 [sv] h fun v h' => (match upk l with
  | none => v = .tuple #[.string .empty, .bool false]
  | some b => v = .tuple #[.string ⟨(b.map UInt8.ofNat).toArray⟩, .bool true]) ∧ Keep h h' ∧ WF E h' := by
 obtain ⟨a, c, rfl, hc1, hc2⟩ := hs.slice
 cases l with
 | nil =>
   have g0 : (((([] : List Nat).length : Nat) : Int) == 0) = true := rfl
   refine en hE Tryz.func163 rfl rfl Tryz.ntmps163 rfl (by decide +kernel) (rs := [.tmp 2, .tmp 3]) rfl ?_
   simp only [push_cast, seval, hE.P, zz, g0]
   exact ⟨rfl, Keep.refl h, hW⟩
 | cons n ws =>
   have g0 : ((((n :: ws).length : Nat) : Int) == 0) = false := by simp; omega
   have hn := hl n (by simp)
   obtain ⟨m, hm⟩ : ∃ m, m = (n :: ws).length := ⟨_, rfl⟩
   rw [← hm] at g0 hl8 hs hc1 ⊢
   have hmw : ws.length = m - 1 := by rw [hm]; simp
   obtain ⟨a0, c0, hsl, hsp, hac⟩ := hs.elem hG (i := 0) (by rw [hm]; simp)
   injection hsl with e1 e2 e3; subst e1; subst e3
   replace hac : acells E h ⟨a0.block, a0.off, none⟩ 1 = some [.int .u64 n] := by simpa [u64s] using hac
   obtain ⟨m1, hm1⟩ : ∃ m1, m1 = m - 1 := ⟨_, rfl⟩
   have hmpos : 1 ≤ m := by rw [hm]; simp
   have hm2 : (m : Int) - 1 = m1 := by omega
   have hm3 : IntKind.i64.wrap (m1 : Int) = m1 := wrN (by omega)
   have hm4 : IntKind.u64.wrap (m1 : Int) = m1 := wruN (by omega)
   obtain ⟨m8, hm8⟩ : ∃ m8, m8 = 8 * m1 := ⟨_, rfl⟩
   have hm5 : (8 : Int) * m1 = m8 := by omega
   have hm6 : IntKind.u64.wrap (m8 : Int) = m8 := wruN (by omega)
   refine en hE Tryz.func163 rfl rfl Tryz.ntmps163 rfl (by decide +kernel) (rs := [.tmp 2, .tmp 3]) rfl ?_
   simp only [push_cast, seval, hE.P, zz, g0]
   rw [ia50 hsp (by omega) (by omega), kpure_some]
   simp only [push_cast, seval, hE.P, zz, g0, ↓hac, hm2, hm3, hm4, hm5, hm6]
   refine kguard_cut (fun tm h' => fget tm 36 = .bool (decide (¬ (n ≤ m8 ∧ m8 < n + 8))) ∧ fget tm 0 = .slice (some a0) m c ∧ h' = h) ?_ ?_
   rotate_left
   ·refine kguard_splitF (fun hb => ?_) (fun hb => ?_)
    ·have h1 : ¬ m8 < n := by simpa using hb
     obtain ⟨n8, hn8⟩ : ∃ n8, n8 = n + 8 := ⟨_, rfl⟩
     have hn9 : (n : Int) + 8 = n8 := by omega
     have hn10 : IntKind.u64.wrap (n8 : Int) = n8 := wruN (by omega)
     simp only [push_cast, seval, hE.P, zz, hb]
     rw [ia50 hsp (by omega) (by omega), kpure_some]
     simp only [push_cast, seval, hE.P, zz, hb, ↓hac, hm2, hm3, hm4, hm5, hm6, hn9, hn10]
     refine congrArg _ (decide_eq_decide.2 ?_)
     omega
    ·have h1 : m8 < n := by simpa using hb
     simp only [push_cast, seval, hE.P, zz, hb]
     rw [decide_eq_true (show ¬ (n ≤ m8 ∧ m8 < n + 8) by omega)]
   ·rintro tm h' ⟨f36, f0, rfl⟩
    by_cases hok : n ≤ m8 ∧ m8 < n + 8
    ·have f36' : fget tm 36 = .bool false := by rw [f36, decide_eq_false (by simpa using hok)]
     obtain ⟨mm, hmm⟩ : ∃ mm, mm = 8 * m := ⟨_, rfl⟩
     have hmm2 : (8 : Int) * m = mm := by omega
     have hmm3 : IntKind.i64.wrap (mm : Int) = mm := wrN (by omega)
     simp only [push_cast, seval, hE.P, zz, f36', f0, hmm2, hmm3]
     rw [mk66 (by omega) (by omega) (by omega) (by omega), kalloc_some]
     obtain ⟨y, hy1, hy2⟩ := sl_tail hE (n := n) (ws := ws) (m := m) (by omega) hsp hs
     obtain ⟨ta, tc, rfl, htc1, htc2⟩ := hy2.slice
     simp only [push_cast, seval, hE.P, zz, f36', f0, hmm2, hmm3, hy1]
     refine wpc_loop (fun k tm h2 => ∃ j, k = ws.length - j ∧ j ≤ ws.length ∧ fget tm 44 = .int .i64 j ∧ fget tm 43 = .int .i64 ws.length ∧ fget tm 42 = .slice ta ws.length tc ∧ fget tm 0 = .slice (some a0) m c ∧
      Own h2 5 1 h'.next (8 * j) (u8s ((ws.take j).flatMap wbytes)) (fget tm 4) ∧ (j = 0 → fget tm 4 = .slice (some ⟨h'.next, 0, none⟩) 0 mm) ∧ Keep h' h2 ∧ WF E h2) ws.length ?_ ?_
     ·refine ⟨0, by omega, by omega, by simp only [push_cast, seval, hE.P, zz], by simp only [push_cast, seval, hE.P, zz], by simp only [push_cast, seval, hE.P, zz], by simp only [push_cast, seval, hE.P, zz, f0], ?_, fun _ => by simp only [push_cast, seval, hE.P, zz], (Keep.refl h').push hW, hW.push _⟩
      simp only [push_cast, seval, hE.P, zz]
      exact Own.made (h := h') (e := 5) (z := 1) (lo := h'.next) (c := mm) (zs := [.int .u8 0]) rfl (by omega) (by omega)
     ·rintro k tm h2 ⟨j, rfl, hj, f44, f43, f42, f0', hown, hini, hk, hw⟩
      obtain ⟨v4, f4⟩ : ∃ v, fget tm 4 = v := ⟨_, rfl⟩
      rw [f4] at hown hini
      simp only [push_cast, seval, hE.P, zz, f44, f43]
      refine kif_split (fun hb => ?_) (fun hb => ?_)
      ·have hlj : j < ws.length := by simpa using hb
       obtain ⟨a1, c1, hsl, hsp1, hac1⟩ := hy2.elem (hG.keep hk) hlj
       injection hsl with e1 e2 e3; subst e1; subst e3
       rw [u64s_at hlj, Nat.mul_one] at hac1
       simp only [push_cast, seval, hE.P, zz, f44, f43, f42, f0', f4]
       rw [ia50 hsp1 (by omega) (by omega), kpure_some]
       simp only [push_cast, seval, hE.P, zz, f44, f43, f42, f0', f4, ↓hac1]
       have hwj := hl ws[j] (List.mem_cons_of_mem _ (List.getElem_mem hlj))
       refine wpc_loop (fun k tm h3 => ∃ b, k = 8 - b ∧ b ≤ 8 ∧ fget tm 48 = .int .i64 b ∧ fget tm 6 = .int .u64 ws[j] ∧ fget tm 44 = .int .i64 j ∧ fget tm 43 = .int .i64 ws.length ∧ fget tm 42 = .slice (some a1) ws.length tc ∧ fget tm 0 = .slice (some a0) m c ∧
        Own h3 5 1 h'.next (8 * j + b) (u8s ((ws.take j).flatMap wbytes ++ (wbytes ws[j]).take b)) (fget tm 4) ∧ Keep h' h3 ∧ WF E h3) 8 ?_ ?_
       ·refine ⟨0, by omega, by omega, by simp only [push_cast, seval, hE.P, zz], by simp only [push_cast, seval, hE.P, zz], by simp only [push_cast, seval, hE.P, zz, f44], by simp only [push_cast, seval, hE.P, zz, f43], by simp only [push_cast, seval, hE.P, zz, f42], by simp only [push_cast, seval, hE.P, zz, f0'], ?_, hk, hw⟩
        simp only [push_cast, seval, hE.P, zz, f4]
        simpa using hown
       ·clear hown hini hk hw f44 f43 f42 f0' f4 hb hac1
        clear tm h2
        rintro k tm h2 ⟨b, rfl, hb8, f48, f6, f44, f43, f42, f0', hown, hk, hw⟩
        obtain ⟨v4, f4⟩ : ∃ v, fget tm 4 = v := ⟨_, rfl⟩
        rw [f4] at hown
        simp only [push_cast, seval, hE.P, zz, f48]
        refine kif_split (fun hb => ?_) (fun hb => ?_)
        ·have hbl : b < 8 := by have := of_decide_eq_true hb; omega
         obtain ⟨b8, hb8'⟩ : ∃ b8, b8 = 8 * b := ⟨_, rfl⟩
         have e1 : (8 : Int) * b = b8 := by omega
         have e2 : IntKind.i64.wrap (b8 : Int) = b8 := wrN (by omega)
         have e3 : ¬ ((b8 : Int) < 0) := by omega
         have e4 := shr_nat' (m := ws[j]) (b := b8) (by omega)
         have e5 := wb_at (w := ws[j]) hbl
         rw [← hb8'] at e5
         obtain ⟨q, hq⟩ : ∃ q, q = ws[j] / 2 ^ b8 := ⟨_, rfl⟩
         rw [← hq] at e4 e5
         obtain ⟨b1, hb1⟩ : ∃ b1, b1 = b + 1 := ⟨_, rfl⟩
         have e6 : (b : Int) + 1 = b1 := by omega
         have e7 : IntKind.i64.wrap (b1 : Int) = b1 := wrN (by omega)
         simp only [push_cast, seval, hE.P, zz, f48, f6, f44, f43, f42, f0', f4, e1, e2, e3, e4, e5]
         rw [bs66 rfl, kalloc_some]
         simp only [push_cast, seval, hE.P, zz, f48, f6, f44, f43, f42, f0', f4]
         refine kwv_own1 (el66 hE.P) hw (lo := h'.next) hk.next hown rfl rfl (by omega) (by omega) ?_
         intro v' h3 hown3 hk3 hw3
         simp only [push_cast, seval, hE.P, zz, f48, f6, f44, f43, f42, f0', f4, e6, e7]
         refine ⟨8 - b1, by omega, b1, rfl, by omega, rfl, ?_, Keep.thenLo hW hk hk3 (Nat.le_refl _), hw3⟩
         have e8 : 8 * j + b1 = 8 * j + b + 1 := by omega
         rw [e8, hb1, List.take_succ_eq_append_getElem (by rw [wbytes_len]; exact hbl), ← List.append_assoc]
         unfold u8s at hown3 ⊢
         rw [List.map_append]
         exact hown3
        ·have hge : b = 8 := by have := of_decide_eq_false hb; omega
         subst hge
         obtain ⟨j1, hj1⟩ : ∃ j1, j1 = j + 1 := ⟨_, rfl⟩
         have e6 : (j : Int) + 1 = j1 := by omega
         have e7 : IntKind.i64.wrap (j1 : Int) = j1 := wrN (by omega)
         simp only [push_cast, seval, hE.P, zz, f44, f43, f42, f0', f4, e6, e7]
         refine ⟨ws.length - j1, by omega, j1, rfl, by omega, rfl, ?_, fun hh => by omega, hk, hw⟩
         have e8 : 8 * j1 = 8 * j + 8 := by omega
         rw [e8, hj1, List.take_succ_eq_append_getElem hlj, List.flatMap_append]
         have e9 : (wbytes ws[j]).take 8 = [ws[j]].flatMap wbytes := by simp; rfl
         rw [← e9]
         exact hown
      ·have hge : j = ws.length := by have : ¬ j < ws.length := by simpa using hb
                                      omega
       subst hge
       rw [List.take_length] at hown
       simp only [push_cast, seval, hE.P, zz, f0', f4]
       rw [ia50 hsp (by omega) (by omega), kpure_some]
       have hac2 : acells E h2 ⟨a0.block, a0.off, none⟩ 1 = some [.int .u64 n] := by
        obtain ⟨a1, c1, hsl, hsp1, hac1⟩ := hs.elem (hG.keep hk) (i := 0) (by omega)
        injection hsl with e1 e2 e3; injection e1 with e1; subst e1
        simpa [u64s] using hac1
       have hnw : IntKind.i64.wrap (n : Int) = n := wrN (by omega)
       obtain ⟨G2, hsl2, hfz2, _⟩ := own_sl hw hown
       have hspv : ∀ a c, v4 = .slice (some a) (8 * ws.length) c → a.spot = none := by
        intro a c e
        rcases hown with ⟨e2, _⟩ | ⟨b, cap, rest, fx, e2, _⟩
        ·rw [e] at e2; cases e2
        ·rw [e] at e2; injection e2 with e3; injection e3 with e3; rw [e3]
       have hsz1 : asz Tryz.prog 5 = some 1 := sz5
       have hba : abnd (some (.int .i64 n)) 0 (8 * ws.length) = some n := by unfold abnd; simp only; rw [if_pos (by omega)]; simp
       obtain ⟨y1, hy3, hy4⟩ := sl_cut (E := E) (P := Tryz.prog) (t := 66) Tryz.underlying66 hsz1 hsl2 (lo := some (.int .i64 n)) (hi := none) (l := n) (h := 8 * ws.length) (fun c _ => rfl) hba (by omega) (Nat.le_refl _) hspv
       obtain ⟨ya, yc, rfl, _, _⟩ := hy4.slice
       obtain ⟨B, hB⟩ : ∃ B, B = ws.flatMap wbytes := ⟨_, rfl⟩
       rw [← hB] at hown hsl2 hy4
       have hBl : B.length = 8 * ws.length := by
        rw [hB]; exact wbs_len ws
       have hcs : ((u8s B).drop n).take (8 * ws.length - n) = u8s (B.drop n) := by
        unfold u8s; rw [List.take_of_length_le (by simp; omega), List.map_drop]
       rw [hcs] at hy4
       obtain ⟨r, hr⟩ : ∃ r, r = 8 * ws.length - n := ⟨_, rfl⟩
       rw [← hr] at hy3 hy4
       have hrl : (B.drop n).length = r := by rw [List.length_drop]; omega
       simp only [push_cast, seval, hE.P, zz, f0', f4, ↓hac2, hnw, hy3]
       refine wpc_loop (fun k tm h3 => ∃ i, k = r - i ∧ i ≤ r ∧ fget tm 69 = .int .i64 i ∧ fget tm 68 = .int .i64 r ∧ fget tm 67 = .slice ya r yc ∧ fget tm 4 = v4 ∧ fget tm 8 = .int .i64 n ∧ h3 = h2 ∧ ((B.drop n).take i).all (· == 0) = true) r ?_ ?_
       ·exact ⟨0, by omega, by omega, by simp only [push_cast, seval, hE.P, zz], by simp only [push_cast, seval, hE.P, zz], by simp only [push_cast, seval, hE.P, zz], by simp only [push_cast, seval, hE.P, zz, f4], by simp only [push_cast, seval, hE.P, zz], rfl, rfl⟩
       ·clear f44 f43 f42 f0' f4 hb
        clear tm
        rintro k tm h3 ⟨i, rfl, hi, f69, f68, f67, f4, f8, rfl, hall⟩
        simp only [push_cast, seval, hE.P, zz, f69, f68]
        refine kif_split (fun hb => ?_) (fun hb => ?_)
        ·have hlt : i < r := by simpa using hb
         obtain ⟨a1, c1, hsl, hsp1, hac1⟩ := hy4.elem hfz2 hlt
         injection hsl with e1 e2 e3; subst e1
         have hat : ((u8s (B.drop n)).drop (i * 1)).take 1 = [.int .u8 ((B.drop n)[i]'(by omega) : Nat)] := by
          unfold u8s
          rw [Nat.mul_one, List.drop_eq_getElem_cons (by simp at hrl ⊢; omega)]; simp
         rw [hat, Nat.mul_one] at hac1
         simp only [push_cast, seval, hE.P, zz, f69, f68, f67, f4, f8]
         rw [ia66 hsp1 (by omega) (by omega), kpure_some]
         simp only [push_cast, seval, hE.P, zz, f69, f68, f67, f4, f8, ↓hac1]
         have hu : upk (n :: ws) = if ((B.drop n).all (· == 0)) = true then some (B.take n) else none := by
          unfold upk; simp only [← hB]
          by_cases hq : ((B.drop n).all (· == 0)) = true
          ·rw [if_pos ⟨by omega, by omega, hq⟩, if_pos hq]
          ·rw [if_neg (fun hh => hq hh.2.2), if_neg hq]
         refine kif_split (fun hb2 => ?_) (fun hb2 => ?_)
         ·have hne : (B.drop n)[i]'(by omega) ≠ 0 := by simpa using hb2
          have hq : ¬ ((B.drop n).all (· == 0)) = true := fun hh => hne (by have := List.all_eq_true.1 hh _ (List.getElem_mem (by omega : i < (B.drop n).length)); simpa using this)
          rw [hu, if_neg hq]
          simp only [push_cast, seval, hE.P, zz]
          exact ⟨rfl, hk, hw⟩
         ·have he : (B.drop n)[i]'(by omega) = 0 := by simpa using hb2
          obtain ⟨i1, hi1⟩ : ∃ i1, i1 = i + 1 := ⟨_, rfl⟩
          have e6 : (i : Int) + 1 = i1 := by omega
          have e7 : IntKind.i64.wrap (i1 : Int) = i1 := wrN (by omega)
          simp only [push_cast, seval, hE.P, zz, f69, f68, f67, f4, f8, e6, e7]
          refine ⟨r - i1, by omega, i1, rfl, by omega, rfl, ?_⟩
          rw [hi1, List.take_succ_eq_append_getElem (by omega), List.all_append, hall, he]; rfl
        ·have hge : i = r := by have : ¬ i < r := by simpa using hb
                                omega
         subst hge
         have hba2 : abnd none 0 n = some 0 := rfl
         obtain ⟨y2, hy5, hy6⟩ := sl_cut (E := E) (P := Tryz.prog) (t := 66) Tryz.underlying66 hsz1 hsl2 (lo := none) (hi := some (.int .i64 n)) (l := 0) (h := n) (fun c hc => by unfold abnd; simp only; rw [if_pos (by omega)]; simp) hba2 (by omega) (by omega) hspv
         obtain ⟨yb, yd, rfl, _, _⟩ := hy6.slice
         rw [Nat.sub_zero] at hy6
         rw [List.drop_zero] at hy6
         have hBt : (u8s B).take n = u8s (B.take n) := by unfold u8s; rw [List.map_take]
         rw [hBt] at hy6
         have hemp : ∀ a c, Value.slice yb n yd = .slice (some a) 0 c → acells E h3 a 0 = some [] := by
          intro a c e
          injection e with e1 e2 e3
          subst e2
          rw [Nat.sub_zero] at hy5
          rcases hown with ⟨e4, e5, _⟩ | ⟨b, cap, rest, fx, e4, hgb, _, _, hcap, _, _⟩
          ·have hw0 : ws.length = 0 := by omega
           have := hini hw0
           rw [e4] at this; cases this
          ·have hcp : 0 < cap := by
            by_cases hw0 : ws.length = 0
            ·have := hini hw0
             rw [e4] at this; injection this with _ _ e6; omega
            ·omega
           rw [e4] at hy5
           have hbx : abnd (some (.int .i64 ((0 : Nat) : Int))) (8 * ws.length) cap = some 0 := by unfold abnd; simp
           have hby : abnd none 0 0 = some 0 := rfl
           unfold asl at hy5
           rw [Tryz.underlying66] at hy5
           simp only [hbx, hby, hsz1] at hy5
           rw [if_pos hcp] at hy5
           injection hy5 with hy5
           injection hy5 with hy5 _ _
           rw [e1] at hy5
           injection hy5 with hy5
           subst hy5
           have nbb := hw.nlt hgb
           simp [acells, addo, hgb, nbb]
         have hcv := fun ev x he => conv_at hE hfz2 (l := B.take n) (n := n) (by rw [List.length_take]; omega) hy6 hemp (ev := ev) (x := x) he
         have hu : upk (n :: ws) = some (B.take n) := by
          unfold upk; simp only [← hB]
          rw [List.take_of_length_le (by omega)] at hall
          rw [if_pos ⟨by omega, by omega, hall⟩]
         rw [Nat.sub_zero] at hy5
         simp only [push_cast, seval, hE.P, zz, f4, f8, hy5]
         rw [hcv _ _ (by simp only [push_cast, seval, hE.P, zz]), kpure_some, hu]
         simp only [push_cast, seval, hE.P, zz]
         exact ⟨hk, hw⟩
    ·have f36' : fget tm 36 = .bool true := by rw [f36, decide_eq_true (by simpa using hok)]
     have hu : upk (n :: ws) = none := by unfold upk; simp only; rw [if_neg (fun hh => hok ⟨by omega, by omega⟩)]
     rw [hu]
     simp only [push_cast, seval, hE.P, zz, f36', f0]
     exact ⟨rfl, Keep.refl _, hW⟩
end Go.Proofs.YthfopcdammlmfaaGreatDoor
namespace Go.Proofs.YthfopcdammlmfaaGreatDoor
open Go.Tm
def RefsOk (O : List Ob) : Prop := ∀ (i : Nat) (o : Ob), O[i]? = some o → ∀ (k x : Nat), k < o.refs → o.ws[k]? = some x → x = 0 ∨ (obj O x).isSome = true
theorem splice_root {A B w : Value} {R : List Value} {i : Nat} {x : Value} (hi : i < R.length) : splice (A :: B :: (R ++ [w])) (2 + i) [x] = A :: B :: (R.set i x ++ [w]) := by
 have e : 2 + i = i + 1 + 1 := by omega
 rw [e]
 unfold splice
 simp only [List.length_cons, List.length_nil, List.take_succ_cons, List.cons_append]
 have e2 : i + 1 + 1 + (0 + 1) = (i + 1) + 1 + 1 := by omega
 rw [e2, List.drop_succ_cons, List.drop_succ_cons, List.take_append_of_le_length (by omega), List.drop_append_of_le_length (by omega), List.set_eq_take_append_cons_drop, if_pos hi]
 simp
section
variable {E : Env} {h : Heap} {L : HL} {S : HS} (H : IsH E h L S) (hW : WF E h)
include H hW
theorem IsH.wRoot {i x : Nat} (hi : i < 16) : Wrote E h L { S with roots := S.roots.set i x } (awrite h ⟨L.ph, 2 + i, none⟩ [.int .u64 x]) := by
 have hl := H.ok.roots
 have hn := H.ne
 refine ⟨_, awrite_of H.heap (by simp [hl]; omega) rfl, ?_⟩
 rw [splice_root (by simpa [hl] using hi)]
 refine ⟨⟨{ H.ok with roots := by simp [hl] }, H.nd, H.base, ?_, ?_, ?_, ?_, ?_, ?_⟩, put_keepB (by simp [HL.blocks]), hW.put H.heap⟩ <;> rw [get_put]
 ·rw [if_pos rfl]; simp [List.map_set]
 ·rw [if_neg (by omega)]; exact H.arena
 ·rw [if_neg (by omega)]; exact H.table
 ·rw [if_neg (by omega)]; exact H.words
 ·rw [if_neg (by omega)]; exact H.begins
 ·rw [if_neg (by omega)]; exact H.slots
end
theorem ra_at {a : Addr} (ha : a.spot = none) {i : Nat} (hi : i < 16) : aindexAddr Tryz.prog 82 (.pointer (some a)) (.int .i64 i) = some (.pointer (some ⟨a.block, a.off + i, none⟩)) := by
 simp [aindexAddr, Tryz.underlying82, sz33, ha, addo, hi]
 omega
variable {E : Env} (hE : EOk E)
include hE
section
variable {h : Heap} {L : HL} {W nS : Nat} {R : List Nat} {O : List Ob} (H : IsO E h L W nS R O) (hW : WF E h)
include H hW
end
section
variable {h : Heap} {L : HL} {S : HS} (H : IsH E h L S)
include H
def handles (n : Nat) : List Nat := (List.range n).map hOf
end
end Go.Proofs.YthfopcdammlmfaaGreatDoor
