/- The reference's parts of a value. -/
/- Merged by a program of ours: G0 P7 P8 G1 G2. -/
import Derived.Test.YthfopcdammlmfaaGreatDoorA8
import Derived.Lib.ValidLaws
import Derived.Test.YthfopcdammlmfaaGreatDoorC5
import Derived.Test.YthfopcdammlmfaaGreatDoorB3
set_option maxRecDepth 10000
set_option linter.all false
set_option linter.unusedSimpArgs false
set_option linter.unusedVariables false
/- PLAIN LAW: UTF-8 byte by byte, as the reference looks at it. No program in sight. -/
namespace Go.Tm
open Go.Lib
def lenU (b : Nat) : Nat := if b < 128 then 1 else if b < 192 then 0 else if b < 224 then 2 else if b < 240 then 3 else if b < 248 then 4 else 0
def lowU (z : Nat) : Int := if z = 2 then 128 else if z = 3 then 2048 else if z = 4 then 65536 else 0
def topU (z : Nat) : Int := if z = 2 then 192 else if z = 3 then 224 else if z = 4 then 240 else 0
def accU (b : Nat → Nat) : Nat → Int
 | 0 => b 0 - topU (lenU (b 0))
 | k + 1 => accU b k * 64 + b (k + 1) - 128
def contU (b : Nat → Nat) : Nat → Bool
 | 0 => true
 | k + 1 => contU b k && decide (128 ≤ b (k + 1)) && decide (b (k + 1) < 192)
def rangeU (z : Nat) (v : Int) : Bool := decide (v ≥ lowU z) && decide (v ≤ 1114111) && (decide (v < 55296) || decide (v > 57343))
def okU (n : Nat) (b : Nat → Nat) : Bool := decide (lenU (b 0) ≠ 0) && decide (lenU (b 0) ≤ n) && contU b (lenU (b 0) - 1) && rangeU (lenU (b 0)) (accU b (lenU (b 0) - 1))
def byU (l : List UInt8) (i : Nat) : Nat := (l.getD i 0).toNat
theorem byU_lt (l : List UInt8) (i : Nat) : byU l i < 256 := (l.getD i 0).toNat_lt
theorem accU_bd (b : Nat → Nat) (hb : ∀ i, b i < 256) : ∀ k, k ≤ 3 → -1000000000 ≤ accU b k ∧ accU b k ≤ 1000000000 := by
 have h0 := hb 0
 have h1 := hb 1
 have h2 := hb 2
 have h3 := hb 3
 have ht : 0 ≤ topU (lenU (b 0)) ∧ topU (lenU (b 0)) ≤ 240 := by
  unfold topU
  repeat' split
  all_goals omega
 intro k hk
 match k, hk with
 | 0, _ => simp only [accU, Nat.reduceAdd]; omega
 | 1, _ => simp only [accU, Nat.reduceAdd]; omega
 | 2, _ => simp only [accU, Nat.reduceAdd]; omega
 | 3, _ => simp only [accU, Nat.reduceAdd]; omega
theorem checkU (n : Nat) (b : Nat → Nat) (h0 : 128 ≤ b 0) (hb : ∀ i, b i < 256) :
 checkN n (b 1) (b 2) (b 3) (firstT (b 0) % 8) (accLo (firstT (b 0) / 16)) (accHi (firstT (b 0) / 16)) = if okU n b = true then some (lenU (b 0)) else none := by
 have e0 := hb 0
 have e1 := hb 1
 have e2 := hb 2
 have e3 := hb 3
 by_cases c0 : b 0 < 192
 ·have hf : firstT (b 0) = 241 := by simp [firstT, show ¬ b 0 < 128 by omega, show b 0 < 194 by omega]
  have hl : lenU (b 0) = 0 := by simp [lenU, show ¬ b 0 < 128 by omega, c0]
  rw [hf]; simp [checkN, okU, hl]
 by_cases c1 : b 0 < 224
 ·have hl : lenU (b 0) = 2 := by simp [lenU, show ¬ b 0 < 128 by omega, c0, c1]
  by_cases c2 : b 0 < 194
  ·have hf : firstT (b 0) = 241 := by simp [firstT, show ¬ b 0 < 128 by omega, c2]
   rw [hf]
   have : okU n b = false := by
    simp only [okU, hl, rangeU, contU, accU, topU, lowU]
    simp
    omega
   simp [checkN, this]
  ·have hf : firstT (b 0) = 2 := by simp [firstT, show ¬ b 0 < 128 by omega, c1, c2]
   rw [hf]
   simp only [checkN, okU, hl, rangeU, contU, accU, topU, lowU, accLo, accHi]
   simp
   split <;> split <;> simp_all <;> omega
 by_cases c2 : b 0 < 240
 ·have hl : lenU (b 0) = 3 := by simp [lenU, show ¬ b 0 < 128 by omega, c0, c1, c2]
  have hf : firstT (b 0) = 19 ∧ b 0 = 224 ∨ firstT (b 0) = 35 ∧ b 0 = 237 ∨ firstT (b 0) = 3 ∧ b 0 ≠ 224 ∧ b 0 ≠ 237 := by
   unfold firstT
   repeat' split
   all_goals omega
  rcases hf with ⟨hf, hx⟩ | ⟨hf, hx⟩ | ⟨hf, hx⟩
  all_goals
   rw [hf]
   simp only [checkN, okU, hl, rangeU, contU, accU, topU, lowU, accLo, accHi]
   simp
   split <;> split <;> simp_all <;> omega
 by_cases c3 : b 0 < 248
 ·have hl : lenU (b 0) = 4 := by simp [lenU, show ¬ b 0 < 128 by omega, c0, c1, c2, c3]
  have hf : firstT (b 0) = 52 ∧ b 0 = 240 ∨ firstT (b 0) = 68 ∧ b 0 = 244 ∨ firstT (b 0) = 4 ∧ b 0 ≠ 240 ∧ b 0 < 244 ∨ firstT (b 0) = 241 ∧ 244 < b 0 := by
   unfold firstT
   repeat' split
   all_goals omega
  rcases hf with ⟨hf, hx⟩ | ⟨hf, hx⟩ | ⟨hf, hx⟩ | ⟨hf, hx⟩
  all_goals
   rw [hf]
   simp only [checkN, okU, hl, rangeU, contU, accU, topU, lowU, accLo, accHi]
   simp
   try (split <;> split <;> simp_all <;> omega)
  intros
  omega
 ·have hl : lenU (b 0) = 0 := by simp [lenU, show ¬ b 0 < 128 by omega, c0, c1, c2, c3]
  have hf : firstT (b 0) = 241 := by
   unfold firstT
   repeat' split
   all_goals omega
  rw [hf]; simp [checkN, okU, hl]
theorem vld_step (l : List UInt8) (hne : l ≠ []) : validD l = (okU l.length (byU l) && validD (l.drop (lenU (byU l 0)))) := by
 by_cases h0 : byU l 0 < 128
 ·match l, hne with
  | c :: t, _ =>
    have hc : c.toNat < 128 := by simpa [byU] using h0
    rw [validD_cons c t hc]
    have hl : lenU (byU (c :: t) 0) = 1 := by simp [lenU, h0]
    have : okU (c :: t).length (byU (c :: t)) = true := by
     simp only [okU, hl, rangeU, contU, accU, topU, lowU]
     simp [contU, accU, topU, hl]
     have e : byU (c :: t) 0 = c.toNat := rfl
     omega
    rw [this, hl]; rfl
 ·rw [validD_lead l hne (by unfold byU at h0; omega)]
  have := checkU l.length (byU l) (by omega) (byU_lt l)
  unfold byU at this
  rw [this]
  unfold byU
  by_cases hk : okU l.length (fun i => (l.getD i 0).toNat) = true
  ·have e : okU l.length (byU l) = true := hk
   rw [if_pos hk, hk]; rfl
  ·rw [if_neg hk]
   simp only [Bool.not_eq_true] at hk
   rw [hk]; rfl
end Go.Tm
/- PLAIN LAW: a value's bytes as the reference spells them; how many they are. No program in sight. -/
namespace Go.Tm
def varB (n : Nat) : List Nat := if n < 128 then [n] else (n % 128 + 128) :: varB (n / 128)
def strB (s : ByteArray) : List Nat := s.data.toList.map (·.toNat)
def u8N (n : Int) : Nat := (IntKind.u8.wrap n).toNat
mutual
def bytesV : Vl → List Nat
 | .mk k n s l f => u8N k :: (if k = 2 then [u8N n] else if k = 3 then varB (turnedN n) else if k = 4 then varB s.size ++ strB s else if k = 5 then varB l.length ++ bytesL l else if k = 6 then varB f.length ++ bytesF f else [])
def bytesL : List Vl → List Nat
 | [] => []
 | v :: l => bytesV v ++ bytesL l
def bytesF : List (ByteArray × Vl) → List Nat
 | [] => []
 | (nm, v) :: l => (varB nm.size ++ strB nm) ++ (bytesV v ++ bytesF l)
end
theorem bytesV_eq (V : Vl) : bytesV V = u8N V.k :: (if V.k = 2 then [u8N V.n] else if V.k = 3 then varB (turnedN V.n) else if V.k = 4 then varB V.s.size ++ strB V.s else if V.k = 5 then varB V.l.length ++ bytesL V.l else if V.k = 6 then varB V.f.length ++ bytesF V.f else []) := by
 cases V; rw [bytesV]; rfl
theorem varB_eq (n : Nat) : varB n = if n < 128 then [n] else (n % 128 + 128) :: varB (n / 128) := by rw [varB]
theorem varB_len (n : Nat) : ((varB n).length : Int) = digitsN n := by
 induction n using Nat.strongRecOn with
 | _ n ih =>
   rw [varB_eq, digitsN]
   by_cases h : n < 128
   ·rw [if_pos h, if_pos h]; rfl
   ·rw [if_neg h, if_neg h, List.length_cons, ← ih (n / 128) (by omega)]; omega
theorem strB_len (s : ByteArray) : (strB s).length = s.size := by simp [strB]
theorem bytesL_len : ∀ l : List Vl, (∀ x, x ∈ l → ((bytesV x).length : Int) = sizeV x) → ((bytesL l).length : Int) = (l.map sizeV).sum
 | [], _ => by simp [bytesL]
 | v :: l, h => by
   have h1 := h v (by simp)
   have h2 := bytesL_len l fun x hx => h x (by simp [hx])
   simp only [bytesL, List.length_append, List.map_cons, List.sum_cons]; omega
theorem bytesF_len : ∀ l : List (ByteArray × Vl), (∀ x, x ∈ l → ((bytesV x.2).length : Int) = sizeV x.2) → ((bytesF l).length : Int) = (l.map fun x => digitsN x.1.size + (x.1.size : Int)).sum + (l.map fun x => sizeV x.2).sum
 | [], _ => by simp [bytesF]
 | (nm, v) :: l, h => by
   have h1 := h (nm, v) (by simp)
   have h2 := bytesF_len l fun x hx => h x (by simp [hx])
   have h3 := varB_len nm.size
   have h4 := strB_len nm
   simp only at h1
   simp only [bytesF, List.length_append, List.map_cons, List.sum_cons]; omega
theorem bytesV_len : ∀ (n : Nat) (V : Vl), V.sz ≤ n → ((bytesV V).length : Int) = sizeV V := by
 intro n
 induction n with
 | zero => intro V hn; have := sz_eq V; omega
 | succ n ih =>
   intro V hn
   have hp : ∀ x, x ∈ V.parts → ((bytesV x).length : Int) = sizeV x := fun x hx => ih x (by have := parts_sz hx; omega)
   rw [bytesV_eq, sizeV_eq, headV]
   by_cases h2 : V.k = 2
   ·have : V.parts = [] := by simp [Vl.parts, h2]
    simp [h2, this]
   by_cases h3 : V.k = 3
   ·have : V.parts = [] := by simp [Vl.parts, h3]
    have := varB_len (turnedN V.n)
    simp only [h3, List.length_cons, *]; simp; omega
   by_cases h4 : V.k = 4
   ·have : V.parts = [] := by simp [Vl.parts, h4]
    have h5 := varB_len V.s.size
    have h6 := strB_len V.s
    rw [if_neg h2, if_neg h3, if_pos h4, if_neg h2, if_neg h3, if_pos h4, this]
    simp; omega
   by_cases h5 : V.k = 5
   ·have e : V.parts = V.l := by simp [Vl.parts, h5]
    have h7 := varB_len V.l.length
    have h8 := bytesL_len V.l fun x hx => hp x (by rw [e]; exact hx)
    rw [if_neg h2, if_neg h3, if_neg h4, if_pos h5, if_neg h2, if_neg h3, if_neg h4, if_pos h5, e]
    simp only [List.length_cons, List.length_append]; omega
   by_cases h6 : V.k = 6
   ·have e : V.parts = V.f.map (·.2) := by simp [Vl.parts, h6]
    have h7 := varB_len V.f.length
    have h8 := bytesF_len V.f fun x hx => hp x.2 (by rw [e]; exact List.mem_map.2 ⟨x, hx, rfl⟩)
    rw [if_neg h2, if_neg h3, if_neg h4, if_neg h5, if_pos h6, if_neg h2, if_neg h3, if_neg h4, if_neg h5, if_pos h6, e, List.map_map]
    have h9 : (V.f.map (sizeV ∘ fun x => x.2)) = V.f.map fun x => sizeV x.2 := rfl
    rw [h9]
    simp only [List.length_cons, List.length_append]; omega
   ·have : V.parts = [] := by simp [Vl.parts, h5, h6]
    simp [h2, h3, h4, h5, h6, this]
theorem bytesL_take {l : List Vl} {i : Nat} (h : i < l.length) : bytesL (l.take (i + 1)) = bytesL (l.take i) ++ bytesV l[i] := by
 have key : ∀ a b : List Vl, bytesL (a ++ b) = bytesL a ++ bytesL b := by
  intro a
  induction a with
  | nil => intro b; simp [bytesL]
  | cons x a ih => intro b; simp only [List.cons_append, bytesL, ih, List.append_assoc]
 rw [List.take_succ_eq_append_getElem h, key]
 simp [bytesL]
theorem bytesF_take {l : List (ByteArray × Vl)} {i : Nat} (h : i < l.length) : bytesF (l.take (i + 1)) = bytesF (l.take i) ++ (varB l[i].1.size ++ strB l[i].1) ++ bytesV l[i].2 := by
 have key : ∀ a b : List (ByteArray × Vl), bytesF (a ++ b) = bytesF a ++ bytesF b := by
  intro a
  induction a with
  | nil => intro b; simp [bytesF]
  | cons x a ih => intro b; obtain ⟨nm, v⟩ := x; simp only [List.cons_append, bytesF, ih, List.append_assoc]
 rw [List.take_succ_eq_append_getElem h, key]
 simp [bytesF]
theorem bytesL_le {l : List Vl} {i : Nat} (h : i < l.length) : (bytesL (l.take i)).length + (bytesV l[i]).length ≤ (bytesL l).length := by
 have key : ∀ a b : List Vl, bytesL (a ++ b) = bytesL a ++ bytesL b := by
  intro a
  induction a with
  | nil => intro b; simp [bytesL]
  | cons x a ih => intro b; simp only [List.cons_append, bytesL, ih, List.append_assoc]
 have e : bytesL l = bytesL (l.take (i + 1)) ++ bytesL (l.drop (i + 1)) := by rw [← key, List.take_append_drop]
 rw [e, bytesL_take h]; simp only [List.length_append]; omega
theorem bytesF_le {l : List (ByteArray × Vl)} {i : Nat} (h : i < l.length) : (bytesF (l.take i)).length + (varB l[i].1.size).length + l[i].1.size + (bytesV l[i].2).length ≤ (bytesF l).length := by
 have key : ∀ a b : List (ByteArray × Vl), bytesF (a ++ b) = bytesF a ++ bytesF b := by
  intro a
  induction a with
  | nil => intro b; simp [bytesF]
  | cons x a ih => intro b; obtain ⟨nm, v⟩ := x; simp only [List.cons_append, bytesF, ih, List.append_assoc]
 have e : bytesF l = bytesF (l.take (i + 1)) ++ bytesF (l.drop (i + 1)) := by rw [← key, List.take_append_drop]
 rw [e, bytesF_take h]; simp only [List.length_append, strB_len]; omega
theorem u8N_cast (n : Int) : IntKind.u8.wrap n = ((u8N n : Nat) : Int) := by
 unfold u8N
 rw [IntKind.wrap_u8]; omega
end Go.Tm
/- PLAIN: texts no longer than a bound; how many bytes a value has then. No program in sight. -/
namespace Go.Tm
def boundV (Bd : Nat) (v : Vl) : Bool := decide (v.s.size ≤ Bd) && decide (-9223372036854775808 ≤ v.n ∧ v.n ≤ 9223372036854775807) && v.f.all fun x => decide (x.1.size ≤ Bd)
theorem allV_imp2 {p q : Vl → Bool} (hpq : ∀ v, p v = true → q v = true) : ∀ (n : Nat) (V : Vl), V.sz ≤ n → allV p V = true → allV q V = true := by
 intro n
 induction n with
 | zero => intro V hn; have := sz_eq V; omega
 | succ n ih =>
   intro V hn h
   rw [allV_eq, Bool.and_eq_true, List.all_eq_true] at h ⊢
   exact ⟨hpq V h.1, fun x hx => ih x (by have := parts_sz hx; omega) (h.2 x hx)⟩
theorem varB_le1 (n : Nat) : (varB n).length ≤ n + 1 := by
 induction n using Nat.strongRecOn with
 | _ n ih =>
   rw [varB_eq]
   split
   ·simp
   ·have := ih (n / 128) (by omega)
    rw [List.length_cons]; omega
theorem varB_le : ∀ (k n : Nat), n < 128 ^ (k + 1) → (varB n).length ≤ k + 1
 | 0, n, h => by rw [varB_eq, if_pos (by omega)]; simp
 | k + 1, n, h => by
   rw [varB_eq]
   split
   ·simp
   ·have := varB_le k (n / 128) (by rw [Nat.pow_succ] at h; omega)
    rw [List.length_cons]; omega
theorem turnedN_lt {n : Int} (h0 : -9223372036854775808 ≤ n) (h1 : n ≤ 9223372036854775807) : turnedN n < 18446744073709551616 := by
 unfold turnedN; split <;> omega
theorem bytesL_bd {C : Nat} : ∀ {l : List Vl}, (∀ x, x ∈ l → (bytesV x).length + 1 ≤ x.sz * C) → (bytesL l).length + l.length ≤ szL l * C
 | [], _ => by simp [bytesL]
 | v :: l, h => by
   have h1 := h v (by simp)
   have h2 := bytesL_bd (l := l) (fun x hx => h x (by simp [hx]))
   simp only [bytesL, szL, List.length_append, List.length_cons, Nat.add_mul]
   omega
theorem bytesF_bd {C Bd : Nat} : ∀ {l : List (ByteArray × Vl)}, (∀ x, x ∈ l → x.1.size ≤ Bd ∧ (bytesV x.2).length + (2 * Bd + 2) ≤ x.2.sz * C) → (bytesF l).length + l.length ≤ szF l * C
 | [], _ => by simp [bytesF]
 | (nm, v) :: l, h => by
   have h1 := h (nm, v) (by simp)
   have h2 := bytesF_bd (l := l) (fun x hx => h x (by simp [hx]))
   have h3 := varB_le1 nm.size
   have h4 := strB_len nm
   simp only at h1
   simp only [bytesF, szF, List.length_append, List.length_cons, Nat.add_mul]
   omega
theorem bytes_bd {Bd : Nat} : ∀ (n : Nat) (V : Vl), V.sz ≤ n → allV (boundV Bd) V = true → (bytesV V).length + (2 * Bd + 4) ≤ V.sz * (4 * Bd + 64) := by
 intro n
 induction n with
 | zero => intro V hn; have := sz_eq V; omega
 | succ n ih =>
   intro V hn h
   have hse := sz_eq V
   rw [allV_eq, Bool.and_eq_true, List.all_eq_true] at h
   obtain ⟨h1, h2⟩ := h
   simp only [boundV, Bool.and_eq_true, decide_eq_true_eq, List.all_eq_true] at h1
   obtain ⟨⟨hs, hn1, hn2⟩, hf⟩ := h1
   have h3 := varB_le1 V.s.size
   have h4 := strB_len V.s
   have hlow : 4 * Bd + 64 ≤ V.sz * (4 * Bd + 64) := by
    calc 4 * Bd + 64 = 1 * (4 * Bd + 64) := by omega
     _ ≤ _ := Nat.mul_le_mul_right _ (by omega)
   rw [bytesV_eq]
   by_cases k2 : V.k = 2
   ·rw [if_pos k2]; simp only [List.length_cons, List.length_nil]; omega
   rw [if_neg k2]
   by_cases k3 : V.k = 3
   ·rw [if_pos k3]
    have := varB_le 9 (turnedN V.n) (Nat.lt_of_lt_of_le (turnedN_lt hn1 hn2) (by decide))
    simp only [List.length_cons]; omega
   rw [if_neg k3]
   by_cases k4 : V.k = 4
   ·rw [if_pos k4]; simp only [List.length_cons, List.length_append]; omega
   rw [if_neg k4]
   by_cases k5 : V.k = 5
   ·rw [if_pos k5]
    have hp : V.parts = V.l := by simp [Vl.parts, k5]
    rw [hp] at h2
    have hb := bytesL_bd (C := 4 * Bd + 64) (l := V.l) (fun x hx => by
     have h5 := ih x (by have := parts_sz (v := V) (x := x) (by rw [hp]; exact hx); omega) (h2 x hx)
     omega)
    have h6 := varB_le1 V.l.length
    have h7 : V.sz * (4 * Bd + 64) = (4 * Bd + 64) + szL V.l * (4 * Bd + 64) + szF V.f * (4 * Bd + 64) := by rw [hse, Nat.add_mul, Nat.add_mul, Nat.one_mul]
    simp only [List.length_cons, List.length_append]
    omega
   rw [if_neg k5]
   by_cases k6 : V.k = 6
   ·rw [if_pos k6]
    have hp : V.parts = V.f.map (·.2) := by simp [Vl.parts, k6]
    rw [hp] at h2
    have hb := bytesF_bd (C := 4 * Bd + 64) (Bd := Bd) (l := V.f) (fun x hx => by
     have h5 := ih x.2 (by have := parts_sz (v := V) (x := x.2) (by rw [hp]; exact List.mem_map.2 ⟨x, hx, rfl⟩); omega) (h2 x.2 (List.mem_map.2 ⟨x, hx, rfl⟩))
     exact ⟨hf x hx, by omega⟩)
    have h6 := varB_le1 V.f.length
    have h7 : V.sz * (4 * Bd + 64) = (4 * Bd + 64) + szL V.l * (4 * Bd + 64) + szF V.f * (4 * Bd + 64) := by rw [hse, Nat.add_mul, Nat.add_mul, Nat.one_mul]
    simp only [List.length_cons, List.length_append]
    omega
   rw [if_neg k6]
   simp only [List.length_cons, List.length_nil]; omega
end Go.Tm
/- The reference's UTF-8. -/
namespace Go.Proofs.YthfopcdammlmfaaGreatDoor
open Go.Tm
theorem cont_false {b : Nat → Nat} {k : Nat} (h : contU b k = false) : ∀ {m : Nat}, k ≤ m → contU b m = false := by
 intro m
 induction m with
 | zero => intro hm; rw [show k = 0 by omega] at h; exact h
 | succ m ih =>
   intro hm
   by_cases hk : k = m + 1
   ·rw [← hk]; exact h
   ·simp only [contU, ih (by omega), Bool.false_and]
variable {E : Env} (hE : EOk E)
include hE
omit hE in
theorem drop_byU {s : ByteArray} {a i : Nat} : byU (s.data.toList.drop a) i = (s.data.toList.getD (a + i) 0).toNat := by
 unfold byU
 rw [List.getD_eq_getElem?_getD, List.getD_eq_getElem?_getD, List.getElem?_drop]
theorem next_at {h : Heap} {s : ByteArray} {a : Nat} (ha : a < s.size) (hs : s.size ≤ 140737488355328) : CallsTo E 171 [.string s, .int .i64 a] h fun v h' =>
 ∃ (r : Int) (nx : Int), v = .tuple #[.int .i64 r, .int .i64 nx, .bool (okU (s.size - a) (byU (s.data.toList.drop a)))] ∧ (okU (s.size - a) (byU (s.data.toList.drop a)) = true → nx = (a : Int) + lenU (byU (s.data.toList.drop a) 0)) ∧ h' = h := by
 have hbl := byU_lt (s.data.toList.drop a)
 have hbb : ∀ i, (s.data.toList.getD (a + i) 0).toNat = byU (s.data.toList.drop a) i := fun i => (drop_byU (s := s) (a := a) (i := i)).symm
 generalize byU (s.data.toList.drop a) = B at *
 have hb0 := hbb 0
 rw [Nat.add_zero] at hb0
 have b0 := hbl 0
 refine en hE Tryz.func171 rfl rfl Tryz.ntmps171 rfl (by decide +kernel) (rs := [.tmp 4, .tmp 5, .tmp 6]) rfl ?_
 simp only [push_cast, seval, hE.P, zz, ↓aidx ha, hb0]
 rw [wr64 (x := ((B 0 : Nat) : Int)) (by omega) (by omega)]
 have hz : lenU (B 0) ≤ 4 := by
  unfold lenU
  repeat' split
  all_goals omega
 refine kif_cut (fun e tm h' => (e = .normal ∧ lenU (B 0) ≠ 0 ∧ fget tm 0 = .string s ∧ fget tm 1 = .int .i64 a ∧ fget tm 8 = .int .i64 (lenU (B 0)) ∧ fget tm 9 = .int .i64 (accU B 0) ∧ fget tm 10 = .int .i64 (lowU (lenU (B 0))) ∧ h' = h) ∨
  (e = .ret ∧ lenU (B 0) = 0 ∧ fget tm 4 = .int .i64 0 ∧ fget tm 5 = .int .i64 0 ∧ fget tm 6 = .bool false ∧ h' = h)) ?_ ?_
 ·rintro e tm h' (⟨rfl, hz0, f0, f1, f8, f9, f10, rfl⟩ | ⟨rfl, hz0, f4, f5, f6, rfl⟩)
  ·simp only [push_cast, seval, hE.P, zz, f0, f1, f8, f9, f10]
   rw [wr64 (x := (a : Int) + lenU (B 0)) (by omega) (by omega)]
   refine kif_split (fun hb => ?_) (fun hb => ?_)
   ·have hlt : ¬ lenU (B 0) ≤ s.size - a := by
     have : (a : Int) + lenU (B 0) > s.size := by simpa using hb
     omega
    simp only [push_cast, seval, hE.P, zz]
    refine ⟨0, 0, ?_, ?_⟩
    ·simp [okU, hlt]
    ·simp [okU, hlt]
   ·have hle : lenU (B 0) ≤ s.size - a := by
     have : ¬ (a : Int) + lenU (B 0) > s.size := by simpa using hb
     omega
    simp only [push_cast, seval, hE.P, zz, f0, f1, f8, f9, f10]
    refine wpc_loop (fun m tm h2 => ∃ k : Nat, m = lenU (B 0) - k ∧ 1 ≤ k ∧ k ≤ lenU (B 0) ∧ fget tm 0 = .string s ∧ fget tm 1 = .int .i64 a ∧ fget tm 8 = .int .i64 (lenU (B 0)) ∧ fget tm 9 = .int .i64 (accU B (k - 1)) ∧ fget tm 10 = .int .i64 (lowU (lenU (B 0))) ∧ fget tm 11 = .int .i64 k ∧ contU B (k - 1) = true ∧ h2 = h') (lenU (B 0) - 1) ?_ ?_
    ·simp only [push_cast, seval, hE.P, zz, f0, f1, f8, f9, f10]
     exact ⟨1, by omega, by omega, by omega, rfl, rfl, rfl⟩
    ·clear f0 f1 f8 f9 f10
     rintro m tm h2 ⟨k, rfl, hk1, hk, f0, f1, f8, f9, f10, f11, hc, rfl⟩
     have hacc := accU_bd B hbl (k - 1) (by omega)
     have hbk := hbl k
     simp only [push_cast, seval, hE.P, zz, f0, f1, f8, f9, f10, f11]
     refine kif_split (fun hb => ?_) (fun hb => ?_)
     ·have hlt : k < lenU (B 0) := by simpa using hb
      simp only [push_cast, seval, hE.P, zz, f0, f1, f8, f9, f10, f11]
      rw [show IntKind.i64.wrap ((a : Int) + k) = ((a + k : Nat) : Int) by rw [wr64 (by omega) (by omega)]; omega]
      simp only [push_cast, seval, hE.P, zz, f0, f1, f8, f9, f10, f11, ↓aidx (s := s) (i := a + k) (by omega), hbb]
      rw [wr64 (x := ((B k : Nat) : Int)) (by omega) (by omega)]
      refine kguard_cut (fun tm h3 => fget tm 0 = .string s ∧ fget tm 1 = .int .i64 a ∧ fget tm 8 = .int .i64 (lenU (B 0)) ∧ fget tm 9 = .int .i64 (accU B (k - 1)) ∧ fget tm 10 = .int .i64 (lowU (lenU (B 0))) ∧ fget tm 11 = .int .i64 k ∧ fget tm 12 = .int .i64 (B k) ∧ fget tm 70 = .bool (decide ((B k : Int) < 128) || decide ((B k : Int) ≥ 192)) ∧ h3 = h2) ?_ ?_
      rotate_left
      ·repeat' (first | (refine kguard_splitF (fun hb => ?_) (fun hb => ?_) <;> simp only [push_cast, seval, hE.P, zz, hb, f0, f1, f8, f9, f10, f11]) | (refine kguard_splitT (fun hb => ?_) (fun hb => ?_) <;> simp only [push_cast, seval, hE.P, zz, hb, f0, f1, f8, f9, f10, f11]))
       all_goals simp [hb]
      ·clear f0 f1 f8 f9 f10 f11
       rintro tm h3 ⟨f0, f1, f8, f9, f10, f11, f12, f70, rfl⟩
       simp only [push_cast, seval, hE.P, zz, f70]
       have hks : k - 1 + 1 = k := by omega
       refine kif_split (fun hb2 => ?_) (fun hb2 => ?_)
       ·simp only [push_cast, seval, hE.P, zz]
        have hcf : contU B k = false := by
         rw [← hks]; simp only [contU, hks, hc]
         simp at hb2 ⊢; omega
        have : okU (s.size - a) B = false := by
         unfold okU
         rw [cont_false hcf (by omega)]; simp
        exact ⟨0, 0, by rw [this], by rw [this]; simp⟩
       ·simp only [push_cast, seval, hE.P, zz, f0, f1, f8, f9, f10, f11, f12]
        rw [wr64 (x := accU B (k - 1) * 64) (by omega) (by omega), wr64 (x := accU B (k - 1) * 64 + B k) (by omega) (by omega), wr64 (by omega) (by omega)]
        refine ⟨lenU (B 0) - (k + 1), by omega, k + 1, rfl, by omega, by omega, ?_, by rw [wr64 (by omega) (by omega)]; rfl, ?_⟩
        ·rw [Nat.add_sub_cancel]
         conv => rhs; rw [← hks]
         simp only [accU, hks]
        ·rw [Nat.add_sub_cancel, ← hks]; simp only [contU, hks, hc]
         simp at hb2 ⊢; omega
     ·have hke : k = lenU (B 0) := by have : ¬ k < lenU (B 0) := by simpa using hb
                                      omega
      have hok : okU (s.size - a) B = rangeU (lenU (B 0)) (accU B (lenU (B 0) - 1)) := by
       unfold okU; rw [← hke, hc]; simp [hke, hz0, hle]
      rw [hke] at f9 hacc
      clear hb hke
      generalize accU B (lenU (B 0) - 1) = A at *
      rw [hok]
      simp only [push_cast, seval, hE.P, zz, f0, f1, f8, f9, f10, f11]
      rw [wr64 (x := (a : Int) + lenU (B 0)) (by omega) (by omega)]
      refine kguard_cut (fun tm h3 => fget tm 4 = .int .i64 A ∧ fget tm 5 = .int .i64 ((a : Int) + lenU (B 0)) ∧ fget tm 6 = .bool (rangeU (lenU (B 0)) A) ∧ h3 = h2) ?_ ?_
      rotate_left
      ·repeat' (first | (refine kguard_splitF (fun hb => ?_) (fun hb => ?_) <;> simp only [push_cast, seval, hE.P, zz, hb, f0, f1, f8, f9, f10, f11]) | (refine kguard_splitT (fun hb => ?_) (fun hb => ?_) <;> simp only [push_cast, seval, hE.P, zz, hb, f0, f1, f8, f9, f10, f11]))
       all_goals (simp_all [rangeU] <;> (try intros) <;> omega)
      ·rintro tm h3 ⟨f4, f5, f6, rfl⟩
       simp only [push_cast, seval, hE.P, zz, f4, f5, f6]
       exact ⟨A, _, rfl, fun _ => rfl⟩
  ·simp only [push_cast, seval, hE.P, zz, f4, f5, f6]
   refine ⟨0, 0, ?_, ?_⟩
   ·simp [okU, hz0]
   ·simp [okU, hz0]
 ·have e := hbl 0
  have hlo : ∀ x : Nat, B 0 < x → lenU (B 0) = lenU (B 0) := fun _ _ => rfl
  refine kif_split (fun hb => ?_) (fun hb => ?_)
  ·have h1 : B 0 < 128 := by have : ((B 0 : Nat) : Int) < 128 := by simpa using hb
                             omega
   have hl : lenU (B 0) = 1 := by simp [lenU, h1]
   simp only [push_cast, seval, hE.P, zz]
   left
   simp [hl, accU, topU, lowU]
  have h1 : ¬ B 0 < 128 := by have : ¬ ((B 0 : Nat) : Int) < 128 := by simpa using hb
                              omega
  simp only [push_cast, seval, hE.P, zz]
  refine kguard_cut (fun tm h3 => fget tm 0 = .string s ∧ fget tm 1 = .int .i64 a ∧ fget tm 7 = .int .i64 (B 0) ∧ fget tm 21 = .bool (decide ((B 0 : Int) ≥ 192) && decide ((B 0 : Int) < 224)) ∧ h3 = h) ?_ ?_
  rotate_left
  ·repeat' (first | (refine kguard_splitF (fun hb => ?_) (fun hb => ?_) <;> simp only [push_cast, seval, hE.P, zz, hb]) | (refine kguard_splitT (fun hb => ?_) (fun hb => ?_) <;> simp only [push_cast, seval, hE.P, zz, hb]))
   all_goals simp [hb]
  rintro tm h3 ⟨f0, f1, f7, f21, rfl⟩
  simp only [push_cast, seval, hE.P, zz, f0, f1, f7, f21]
  refine kif_split (fun hb => ?_) (fun hb => ?_)
  ·have h2 : 192 ≤ B 0 ∧ B 0 < 224 := by have : (192 : Int) ≤ B 0 ∧ (B 0 : Int) < 224 := by simpa using hb
                                         omega
   have hl : lenU (B 0) = 2 := by simp [lenU, h1, h2, show ¬ B 0 < 192 by omega]
   simp only [push_cast, seval, hE.P, zz, f0, f1, f7]
   rw [wr64 (by omega) (by omega)]
   left
   simp [hl, accU, topU, lowU]
  have h2 : ¬ (192 ≤ B 0 ∧ B 0 < 224) := by have : ¬ ((192 : Int) ≤ B 0 ∧ (B 0 : Int) < 224) := by simpa using hb
                                            omega
  simp only [push_cast, seval, hE.P, zz, f0, f1, f7]
  refine kguard_cut (fun tm h4 => fget tm 0 = .string s ∧ fget tm 1 = .int .i64 a ∧ fget tm 7 = .int .i64 (B 0) ∧ fget tm 30 = .bool (decide ((B 0 : Int) ≥ 224) && decide ((B 0 : Int) < 240)) ∧ h4 = h3) ?_ ?_
  rotate_left
  ·repeat' (first | (refine kguard_splitF (fun hb => ?_) (fun hb => ?_) <;> simp only [push_cast, seval, hE.P, zz, hb, f0, f1, f7]) | (refine kguard_splitT (fun hb => ?_) (fun hb => ?_) <;> simp only [push_cast, seval, hE.P, zz, hb, f0, f1, f7]))
   all_goals simp [hb]
  clear f0 f1 f7 f21
  rintro tm h4 ⟨f0, f1, f7, f30, rfl⟩
  simp only [push_cast, seval, hE.P, zz, f0, f1, f7, f30]
  refine kif_split (fun hb => ?_) (fun hb => ?_)
  ·have h3 : 224 ≤ B 0 ∧ B 0 < 240 := by have : (224 : Int) ≤ B 0 ∧ (B 0 : Int) < 240 := by simpa using hb
                                         omega
   have hl : lenU (B 0) = 3 := by simp [lenU, h1, h3, show ¬ B 0 < 192 by omega, show ¬ B 0 < 224 by omega]
   simp only [push_cast, seval, hE.P, zz, f0, f1, f7]
   rw [wr64 (by omega) (by omega)]
   left
   simp [hl, accU, topU, lowU]
  have h3 : ¬ (224 ≤ B 0 ∧ B 0 < 240) := by have : ¬ ((224 : Int) ≤ B 0 ∧ (B 0 : Int) < 240) := by simpa using hb
                                            omega
  simp only [push_cast, seval, hE.P, zz, f0, f1, f7]
  refine kguard_cut (fun tm h5 => fget tm 0 = .string s ∧ fget tm 1 = .int .i64 a ∧ fget tm 7 = .int .i64 (B 0) ∧ fget tm 39 = .bool (decide ((B 0 : Int) ≥ 240) && decide ((B 0 : Int) < 248)) ∧ h5 = h4) ?_ ?_
  rotate_left
  ·repeat' (first | (refine kguard_splitF (fun hb => ?_) (fun hb => ?_) <;> simp only [push_cast, seval, hE.P, zz, hb, f0, f1, f7]) | (refine kguard_splitT (fun hb => ?_) (fun hb => ?_) <;> simp only [push_cast, seval, hE.P, zz, hb, f0, f1, f7]))
   all_goals simp [hb]
  clear f0 f1 f7 f30
  rintro tm h5 ⟨f0, f1, f7, f39, rfl⟩
  simp only [push_cast, seval, hE.P, zz, f0, f1, f7, f39]
  refine kif_split (fun hb => ?_) (fun hb => ?_)
  ·have h4 : 240 ≤ B 0 ∧ B 0 < 248 := by have : (240 : Int) ≤ B 0 ∧ (B 0 : Int) < 248 := by simpa using hb
                                         omega
   have hl : lenU (B 0) = 4 := by simp [lenU, h1, h4, show ¬ B 0 < 192 by omega, show ¬ B 0 < 224 by omega, show ¬ B 0 < 240 by omega]
   simp only [push_cast, seval, hE.P, zz, f0, f1, f7]
   rw [wr64 (by omega) (by omega)]
   left
   simp [hl, accU, topU, lowU]
  have h4 : ¬ (240 ≤ B 0 ∧ B 0 < 248) := by have : ¬ ((240 : Int) ≤ B 0 ∧ (B 0 : Int) < 248) := by simpa using hb
                                            omega
  simp only [push_cast, seval, hE.P, zz, f0, f1, f7]
  right
  have hl : lenU (B 0) = 0 := by
   unfold lenU
   repeat' split
   all_goals omega
  simp [hl]
theorem runes_at {h : Heap} (hW : WF E h) {s : ByteArray} (hs : s.size ≤ 1000000000000) : CallsTo E 146 [.string s] h fun v h' => ∃ x, v = .tuple #[x, .bool (vld s)] ∧ Keep h h' ∧ WF E h' := by
 refine en hE Tryz.func146 rfl rfl Tryz.ntmps146 rfl (by decide +kernel) (rs := [.tmp 2, .tmp 3]) rfl ?_
 simp only [push_cast, seval, hE.P, zz]
 refine wpc_loop (fun m tm h' => ∃ (a n : Nat) (cs : List Value), m = s.size - a ∧ a ≤ s.size ∧ n ≤ a ∧ fget tm 0 = .string s ∧ fget tm 5 = .int .i64 a ∧ Lib.validD (s.data.toList.drop a) = vld s ∧
  Own h' 21 1 h.next n cs (fget tm 4) ∧ KeepLo h.next h h' ∧ WF E h') s.size ?_ ?_
 ·simp only [push_cast, seval, hE.P, zz]
  exact ⟨0, 0, [], by omega, by omega, by omega, rfl, by rw [List.drop_zero]; rfl, Own.nil _ _ _ _, KeepLo.refl _ _, hW⟩
 ·rintro m tm h' ⟨a, n, cs, rfl, ha, hn, f0, f5, hv, hown, hk, hw⟩
  obtain ⟨x4, f4⟩ : ∃ v, fget tm 4 = v := ⟨_, rfl⟩
  rw [f4] at hown
  simp only [push_cast, seval, hE.P, zz, f0, f5, f4]
  refine kif_split (fun hb => ?_) (fun hb => ?_)
  ·have hlt : a < s.size := by simpa using hb
   simp only [push_cast, seval, hE.P, zz, f0, f5, f4]
   refine (next_at hE hlt (by omega)).mono ?_
   rintro v h2 ⟨r, nx, rfl, hnx, rfl⟩
   have hst := vld_step (s.data.toList.drop a) (by
    intro hd
    have := congrArg List.length hd
    simp at this; omega)
   have hln : (s.data.toList.drop a).length = s.size - a := by simp
   rw [hln, hv] at hst
   simp only [push_cast, seval, hE.P, zz, f0, f5, f4]
   refine kif_split (fun hb2 => ?_) (fun hb2 => ?_)
   ·have hf : okU (s.size - a) (byU (s.data.toList.drop a)) = false := by simpa using hb2
    simp only [push_cast, seval, hE.P, zz]
    rw [hf, Bool.false_and] at hst
    exact ⟨_, by rw [hst], hk.keep hW (Nat.le_refl _), hw⟩
   ·have hf : okU (s.size - a) (byU (s.data.toList.drop a)) = true := by simpa using hb2
    have hl := hf
    unfold okU at hl
    simp only [Bool.and_eq_true, decide_eq_true_eq] at hl
    obtain ⟨⟨⟨hl0, hl1⟩, _⟩, _⟩ := hl
    rw [hf, Bool.true_and] at hst
    have hnx' := hnx hf
    generalize lenU (byU (s.data.toList.drop a) 0) = z at *
    subst hnx'
    simp only [push_cast, seval, hE.P, zz, f0, f5, f4]
    rw [bs184 rfl, kalloc_some]
    simp only [push_cast, seval, hE.P, zz, f0, f5, f4]
    have := hk.next
    refine kwv_own1 (el184 hE.P) hw (lo := h.next) (by omega) hown rfl rfl (by omega) (by omega) ?_
    intro v' h3 hown3 hk3 hw3
    simp only [push_cast, seval, hE.P, zz, f0, f5, f4]
    refine ⟨s.size - (a + z), by omega, a + z, n + 1, _, rfl, by omega, by omega, rfl, ?_, hown3, hk.trans hk3, hw3⟩
    rw [← List.drop_drop, hst]
  ·have hge : a = s.size := by have : ¬ a < s.size := by simpa using hb
                               omega
   subst hge
   simp only [push_cast, seval, hE.P, zz, f0, f5, f4]
   rw [List.drop_eq_nil_of_le (by simp)] at hv
   exact ⟨_, by rw [← hv]; rfl, hk.keep hW (Nat.le_refl _), hw⟩
theorem valid1_at {h : Heap} (hW : WF E h) {s : ByteArray} (hs : s.size ≤ 1000000000000) : CallsTo E 103 [.string s] h fun v h' => v = .bool (vld s) ∧ Keep h h' ∧ WF E h' := by
 refine en hE Tryz.func103 rfl rfl Tryz.ntmps103 rfl (by decide +kernel) (rs := [.tmp 2]) rfl ?_
 simp only [push_cast, seval, hE.P, zz]
 refine (runes_at hE hW hs).mono ?_
 rintro v h2 ⟨x, rfl, hk, hw⟩
 simp only [push_cast, seval, hE.P, zz]
 exact ⟨hk, hw⟩
end Go.Proofs.YthfopcdammlmfaaGreatDoor
namespace Go.Tm
theorem Rep.one {E : Env} {G : Mem} {V : Vl} {c : List Value} (h : Rep E G V c) : c.all Value.oneCell' = true := by
 obtain ⟨sl, sf, cl, cf, rfl, hsl, hsf, _⟩ := h.cells
 obtain ⟨a, cap, rfl, _⟩ := hsl.slice
 obtain ⟨a2, cap2, rfl, _⟩ := hsf.slice
 rfl
theorem RepLs.ones {E : Env} {G : Mem} : ∀ {l : List Vl} {c : List Value}, RepLs E G l c → c.all Value.oneCell' = true ∧ c.length = l.length * 5
 | [], c, h => by
   unfold RepLs at h
   subst h; exact ⟨rfl, by simp⟩
 | V :: l, c, h => by
   unfold RepLs at h
   obtain ⟨c1, c2, rfl, h1, h2⟩ := h
   have := RepLs.ones h2
   have e := h1.len
   refine ⟨by rw [List.all_append, h1.one, this.1]; rfl, by simp [this.2, e]; omega⟩
theorem kwv_ownS {E : Env} {G : Mem} {h : Heap} {t e z by_ lo n m : Nat} {cs xs : List Value} {v x : Value} {d : Option Nat} {R : Cont} {tm : Tr Value} (T : Elem E t e z by_) (hW : WF E h) (hG : Frz E G h) (hlo : lo ≤ h.next) (H : Own h e z lo n cs v)
 (hx : Sl E G z m xs x) (hl : xs.length = m * z) (ho : xs.all Value.oneCell' = true) (hb : (n + m) * by_ ≤ 140737488355328) (hn : n + m ≤ 9223372036854775807)
 (K : ∀ v' h', Own h' e z lo (n + m) (cs ++ xs) v' → KeepLo lo h h' → WF E h' → R (aput tm d v') h') : kwv (aappend E h t t v x) d R tm h := by
 obtain ⟨a, cap, rfl, hc1, hc2, hc3, hcs⟩ := hx
 by_cases h0 : m = 0
 ·subst h0
  have : xs = [] := by simpa using hl
  subst this
  obtain ⟨i, hi, hiz⟩ : ∃ i, E.P.info? e = some i ∧ (i.size, i.bytes) = (z, by_) := by
   have := T.info
   rw [Option.map_eq_some_iff] at this
   exact this
  have hs : ∃ base sCap, v = .slice base n sCap ∧ n ≤ sCap := by
   rcases H with ⟨rfl, rfl, rfl⟩ | ⟨b, cap, rest, fx, rfl, _, _, _, h3, _⟩
   ·exact ⟨_, _, rfl, by omega⟩
   ·exact ⟨_, _, rfl, h3⟩
  obtain ⟨base, sCap, rfl, hle⟩ := hs
  refine ⟨(.slice base n sCap, h), ?_, K _ _ (by simpa using H) (KeepLo.refl _ _) hW⟩
  simp only [aappend, T.und, alenOf, isIntD, Bool.false_eq_true, if_false, hi]
  unfold aappendE
  rw [if_pos ⟨rfl, hle⟩]
 ·refine kwv_own T hW hlo H rfl (by omega) ?_ hl ho hb hn K
  rcases hcs with ⟨h1, _⟩ | ⟨b, rfl, hg⟩
  ·exact absurd h1 h0
  ·have hz := T.pos
   simp only [asrc]
   rw [if_neg (by have := Nat.mul_pos (show 0 < m by omega) hz; omega)]
   exact gcells_acells hG hg
end Go.Tm
namespace Go.Proofs.YthfopcdammlmfaaGreatDoor
open Go.Tm
variable {E : Env} (hE : EOk E)
include hE
theorem partsR_at {G : Mem} {h : Heap} (hW : WF E h) (hG : Frz E G h) {V : Vl} {c : List Value} (hV : Rep E G V c) : CallsTo E 102 [.agg c.toArray] h fun v h' => ∃ G' cs, Sl E G' 5 V.parts.length cs v ∧ RepLs E G' V.parts cs ∧ Ext E G h G' h' := by
 obtain ⟨sl, sf, cl, cf, rfl, hsl, hsf, hl, hf, hb1, hb2, hb3⟩ := hV.cells
 refine en hE Tryz.func102 rfl rfl Tryz.ntmps102 rfl (by decide +kernel) (rs := [.tmp 2]) rfl ?_
 simp only [push_cast, seval, hE.P, zz, hW.nb, hW.nb0]
 refine kif_split (fun hb => ?_) (fun hb => ?_)
 ·have hk : V.k = 5 := by simpa using hb
  have hp : V.parts = V.l := by simp [Vl.parts, hk]
  have hones := hl.ones
  simp only [push_cast, seval, hE.P, zz, hW.nb, hW.nb0]
  refine kwv_ownS (el22 hE.P) (hW.push _) (hG.keep ((Keep.refl h).push hW)) (lo := h.next + 1) (by simp) (Own.nil _ _ _ _) hsl hones.2 hones.1 (by omega) (by omega) ?_
  intro v' h2 hown2 hk2 hw2
  simp only [push_cast, seval, hE.P, zz]
  obtain ⟨G', hs, hx⟩ := hown2.freeze hW hG (by omega) (Keep.thenLo hW ((Keep.refl h).push hW) hk2 (by omega)) hw2
  rw [Nat.zero_add, List.nil_append] at hs
  exact ⟨G', cl, by rw [hp]; exact hs, by rw [hp]; exact hl.sub hx.sub, hx⟩
 ·have hk : V.k ≠ 5 := by simpa using hb
  simp only [push_cast, seval, hE.P, zz, hW.nb, hW.nb0]
  refine kif_split (fun hb => ?_) (fun hb => ?_)
  ·have hk6 : V.k = 6 := by simpa using hb
   have hp : V.parts = V.f.map (·.2) := by simp [Vl.parts, hk6]
   obtain ⟨a, cap, rfl, hc1, hc2⟩ := hsf.slice
   obtain ⟨a2, cap2, rfl, _, _⟩ := hsl.slice
   simp only [push_cast, seval, hE.P, zz, hW.nb, hW.nb0]
   have w0 : WF E (h.push (.cells [.int .i64 V.k, .int .i64 V.n, .string V.s, .slice a2 V.l.length cap2, .slice a V.f.length cap] 25 true)) := hW.push _
   have g0 : (h.push (.cells [.int .i64 V.k, .int .i64 V.n, .string V.s, .slice a2 V.l.length cap2, .slice a V.f.length cap] 25 true)).get h.next = some (.cells [.int .i64 V.k, .int .i64 V.n, .string V.s, .slice a2 V.l.length cap2, .slice a V.f.length cap] 25 true) := by simp only [get_push, if_true]
   have k0 : Keep h (h.push (.cells [.int .i64 V.k, .int .i64 V.n, .string V.s, .slice a2 V.l.length cap2, .slice a V.f.length cap] 25 true)) := (Keep.refl h).push hW
   have n0 : (h.push (.cells [.int .i64 V.k, .int .i64 V.n, .string V.s, .slice a2 V.l.length cap2, .slice a V.f.length cap] 25 true)).next = h.next + 1 := by simp
   generalize h.push (.cells [.int .i64 V.k, .int .i64 V.n, .string V.s, .slice a2 V.l.length cap2, .slice a V.f.length cap] 25 true) = H at *
   refine wpc_loop (fun m tm h' => ∃ (i : Nat) (cs : List Value), m = V.f.length - i ∧ i ≤ V.f.length ∧ fget tm 1 = .pointer (some ⟨h.next, 0, none⟩) ∧ fget tm 4 = .int .i64 i ∧
    Own h' 25 5 (h.next + 1) i cs (fget tm 3) ∧ RepLs E G (V.parts.take i) cs ∧ Keep H h' ∧ WF E h') V.f.length ?_ ?_
   ·simp only [push_cast, seval, hE.P, zz]
    exact ⟨0, [], by omega, by omega, rfl, Own.nil _ _ _ _, by simp [RepLs], Keep.refl _, w0⟩
   ·rintro m tm h' ⟨i, cs, rfl, hi, f1, f4, hown, hrep, hkeep, hw⟩
    obtain ⟨v3, f3⟩ : ∃ v, fget tm 3 = v := ⟨_, rfl⟩
    rw [f3] at hown
    have g1 := hkeep.get _ _ g0
    simp only [push_cast, seval, hE.P, zz, f1, f4, f3, g1, hW.nb0]
    refine kif_split (fun hb => ?_) (fun hb => ?_)
    ·have hlt : i < V.f.length := by simpa using hb
     obtain ⟨b, c, e1, hsp, hac⟩ := hsf.elem (hG.keep (k0.trans hkeep)) hlt
     injection e1 with e1 e2 e3
     subst e1; subst e3
     obtain ⟨c1, hc1', hrc, hnm⟩ := hf.at i V.f[i].1 V.f[i].2 (by simp [hlt])
     rw [hc1'] at hac
     obtain ⟨sl', sf', cl', cf', rfl, hsl', hsf', _⟩ := hrc.cells
     obtain ⟨a2', cap2', rfl, _, _⟩ := hsl'.slice
     obtain ⟨a3, cap3, rfl, _, _⟩ := hsf'.slice
     have n3 := acells_part hac 1 5 (by omega)
     simp only [Nat.add_zero, List.drop_zero, List.take_succ_cons, List.take_zero, List.drop_succ_cons] at n3
     simp only [push_cast, seval, hE.P, zz, f1, f4, f3, g1, hW.nb0]
     rw [ia23 hsp (by omega) (by omega), kpure_some]
     simp only [push_cast, seval, hE.P, zz, f1, f4, f3, g1, hW.nb0, ↓n3]
     rw [bs22 rfl, kalloc_some]
     simp only [push_cast, seval, hE.P, zz, f1, f4, f3]
     have := hkeep.next
     refine kwv_own1 (el22 hE.P) hw (lo := h.next + 1) (by omega) hown rfl rfl (by omega) (by omega) ?_
     intro v' h2 hown2 hk2 hw2
     simp only [push_cast, seval, hE.P, zz, f1, f4, f3]
     refine ⟨V.f.length - (i + 1), by omega, i + 1, _, rfl, by omega, by rw [wr64 (by omega) (by omega)]; rfl, hown2, ?_, ?_, hw2⟩
     ·have hpi : V.parts[i]? = some V.f[i].2 := by rw [hp]; simp [hlt]
      rw [List.take_succ, hpi]
      exact hrep.app (RepLs.one hrc)
     ·exact Keep.thenLo w0 hkeep hk2 (by omega)
    ·have hge : i = V.f.length := by have : ¬ i < V.f.length := by simpa using hb
                                     omega
     subst hge
     simp only [push_cast, seval, hE.P, zz, f1, f4, f3]
     obtain ⟨G', hs, hx⟩ := hown.freeze hW hG (by omega) (k0.trans hkeep) hw
     have hlen : V.parts.length = V.f.length := by rw [hp]; simp
     refine ⟨G', cs, by rw [hlen]; exact hs, ?_, hx⟩
     rw [← hlen, List.take_length] at hrep
     exact hrep.sub hx.sub
  ·have hk6 : V.k ≠ 6 := by simpa using hb
   have hp : V.parts = [] := by simp [Vl.parts, hk, hk6]
   simp only [push_cast, seval, hE.P, zz, hW.nb, hW.nb0]
   refine ⟨G, [], ?_, by rw [hp]; simp [RepLs], Ext.same hG ((Keep.refl h).push hW) (hW.push _)⟩
   rw [hp]; exact ⟨none, 0, rfl, by simp, by omega, ⟨fun _ => rfl, fun _ x => (by cases x)⟩, .inl ⟨rfl, rfl⟩⟩
end Go.Proofs.YthfopcdammlmfaaGreatDoor
