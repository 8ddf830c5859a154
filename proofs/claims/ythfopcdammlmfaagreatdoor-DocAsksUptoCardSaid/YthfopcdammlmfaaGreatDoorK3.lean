/- The law DocAsks, but for one step into a value. -/
import Derived.Test.YthfopcdammlmfaaGreatDoorK1
import Derived.Test.YthfopcdammlmfaaGreatDoorK2
set_option maxRecDepth 10000
set_option linter.all false
set_option linter.unusedSimpArgs false
set_option linter.unusedVariables false
namespace Go.Tm
theorem u8N_lt (n : Int) : u8N n < 256 := by
  have h1 : 0 ≤ IntKind.u8.wrap n ∧ IntKind.u8.wrap n < 256 := by unfold IntKind.wrap; simp [IntKind.signed, IntKind.bits]; omega
  unfold u8N; omega
theorem varB_lt (n : Nat) : ∀ y, y ∈ varB n → y < 256 := by
  induction n using Nat.strongRecOn with
  | _ n ih =>
    intro y hy
    rw [varB_eq] at hy
    by_cases h : n < 128
    · rw [if_pos h] at hy; simp at hy; omega
    · rw [if_neg h] at hy
      rcases List.mem_cons.1 hy with hy | hy
      · omega
      · exact ih _ (by omega) y hy
theorem strB_lt (s : ByteArray) : ∀ y, y ∈ strB s → y < 256 := fun y hy => by
  obtain ⟨c, _, rfl⟩ := List.mem_map.1 hy
  exact UInt8.toNat_lt c
mutual
theorem bytesV_lt : ∀ (V : Vl) (y : Nat), y ∈ bytesV V → y < 256
  | .mk k n s l f, y, hy => by
    rw [bytesV] at hy
    rcases List.mem_cons.1 hy with hy | hy
    · rw [hy]; exact u8N_lt _
    · split at hy
      · simp at hy; rw [hy]; exact u8N_lt _
      · split at hy
        · exact varB_lt _ y hy
        · split at hy
          · rcases List.mem_append.1 hy with hy | hy
            · exact varB_lt _ y hy
            · exact strB_lt _ y hy
          · split at hy
            · rcases List.mem_append.1 hy with hy | hy
              · exact varB_lt _ y hy
              · exact bytesL_lt l y hy
            · split at hy
              · rcases List.mem_append.1 hy with hy | hy
                · exact varB_lt _ y hy
                · exact bytesF_lt f y hy
              · cases hy
theorem bytesL_lt : ∀ (l : List Vl) (y : Nat), y ∈ bytesL l → y < 256
  | [], y, hy => by simp [bytesL] at hy
  | v :: l, y, hy => by
    rw [bytesL] at hy
    rcases List.mem_append.1 hy with hy | hy
    · exact bytesV_lt v y hy
    · exact bytesL_lt l y hy
theorem bytesF_lt : ∀ (l : List (ByteArray × Vl)) (y : Nat), y ∈ bytesF l → y < 256
  | [], y, hy => by simp [bytesF] at hy
  | (nm, v) :: l, y, hy => by
    rw [bytesF] at hy
    rcases List.mem_append.1 hy with hy | hy
    · rcases List.mem_append.1 hy with hy | hy
      · exact varB_lt _ y hy
      · exact strB_lt _ y hy
    · rcases List.mem_append.1 hy with hy | hy
      · exact bytesV_lt v y hy
      · exact bytesF_lt l y hy
end
def wpu (E : Env) (O l : List Oper) (tr : List St) (Q : List St → Prop) : Cont := wpt E O l tr Q
section
variable {E : Env} {O l : List Oper} {tr : List St} {Q : List St → Prop} {tm : Tr Value} {h : Heap} {ty : TypeId} {pos : String} {aft : Array Edge}
theorem wpu_nil : wpu E O [] tr Q tm h ↔ Q (tr ++ [⟨tm, h⟩]) := Iff.intro id id
theorem wpu_cons {d : Option Nat} {op : Op} : wpu E O (⟨d, op, ty, pos, aft, none⟩ :: l) tr Q tm h ↔ wop1 E op d (wpu E O l (tr ++ [⟨tm, h⟩]) Q) tm h := by
  unfold wpu; rw [wpt_cons]
theorem wpu_guard {d : Option Nat} {op : Op} {j : Nat} {b : Bool} : wpu E O (⟨d, op, ty, pos, aft, some (j, b)⟩ :: l) tr Q tm h ↔ kguard (gval O j tm) b (wop1 E op d (wpu E O l (tr ++ [⟨tm, h⟩]) Q)) (wskip d (wpu E O l (tr ++ [⟨tm, h⟩]) Q)) tm h := by
  unfold wpu; rw [wpt_guard]
end
theorem wdraw_pairsF {E : Env} {O : List Oper} {Q : Cont} {tm : Tr Value} {h : Heap} (prs : List (Nat × Nat)) (h1 : dstat E.P O (masks O []) none = true) (h2 : (match spOf E.P O (masks O []) with | none => true | some _ => false) = true) (h3 : unord E.P O (masks O []) = prs)
    (H : ∀ F : List St → Prop, (∀ tr, (∀ p, p ∈ prs → pairOk E O tr ⟨tm, h⟩ p.1 p.2) → Q (sget tr ⟨tm, h⟩ O.length).tm (sget tr ⟨tm, h⟩ O.length).h → F tr) → wpu E O O [] F tm h) : wdraw E O Q tm h :=
  wdraw_pairs prs h1 h2 h3 (H _ fun _ a b => ⟨a, b⟩)
end Go.Tm
namespace Go.Proofs.YthfopcdammlmfaaGreatDoor
open Go.Tm
theorem bs2_val {a b c d e a' b' c' d' e' : Value} : abs1 Tryz.prog 22 2 [(0, .agg #[a, b, c, d, e]), (1, .agg #[a', b', c', d', e'])] = some (fun b => .slice (some ⟨b, 0, none⟩) 2 2, .cells [a, b, c, d, e, a', b', c', d', e'] 25 true) := by
  unfold abs1
  rw [Tryz.underlying22]
  simp only [sz25, zr25]
  simp [afill, arep, splice, vcells]
theorem boolE {a b : Bool} : anil Tryz.prog true 4 (.bool a) (.bool b) = some (a == b) := by cases a <;> cases b <;> kernel_rfl
theorem boolF {a b : Bool} : anil Tryz.prog false 4 (.bool a) (.bool b) = some (a == b) := by cases a <;> cases b <;> kernel_rfl
theorem buildO_good {O : List Ob} {V : Vl} (hg : goodV V = 0) (h1 : allO O ≤ 8192) (h2 : O.length ≤ 2048) : buildO 32768 8192 O V = (.tuple #[.int .u64 (hOf (O.length + (obs O.length V).length - 1)), .int .i64 0], O ++ obs O.length V) := by
  obtain ⟨a, b⟩ := good_room hg O.length
  unfold buildO
  rw [if_pos hg, if_pos (by omega)]
theorem buildO_bad {W nS : Nat} {O : List Ob} {V : Vl} (hg : goodV V ≠ 0) : buildO W nS O V = (.tuple #[.int .u64 0, .int .i64 (goodV V)], O) := by
  unfold buildO
  rw [if_neg hg]
variable {E : Env} (hE : EOk E)
include hE
set_option maxHeartbeats 1000000 in
theorem asks_at {h : Heap} (hW : WF E h) {G : Mem} (hG : Frz E G h) {V W : Vl} {c d : List Value} (hV : Rep E G V c) (hV2 : Rep E G W d) (hsm : allV smallV V = true) (hsm2 : allV smallV W = true) (hbl : V.sz ≤ 5000 → (bytesV V).length ≤ 1000000000000) (hbl2 : W.sz ≤ 5000 → (bytesV W).length ≤ 1000000000000)
    {p : ByteArray} (hp : p.size ≤ 140737488355328) :
    CallsTo E 5 [.agg c.toArray, .agg d.toArray, .string p] h fun r h' => r = .bool true ∧ Keep h h' ∧ WF E h' := by
  have hVC := hV
  have hWC := hV2
  obtain ⟨sl, sf, cl, cf, rfl, hsl, hsf, _⟩ := hV.cells
  obtain ⟨a2, cap2, rfl, _, _⟩ := hsl.slice
  obtain ⟨a3, cap3, rfl, _, _⟩ := hsf.slice
  obtain ⟨sl2, sf2, cl2, cf2, rfl, hsl2, hsf2, _⟩ := hV2.cells
  obtain ⟨d2, dap2, rfl, _, _⟩ := hsl2.slice
  obtain ⟨d3, dap3, rfl, _, _⟩ := hsf2.slice
  refine en hE Tryz.func5 rfl rfl Tryz.ntmps5 rfl (by decide +kernel) (rs := [.tmp 6]) rfl ?_
  simp only [push_cast, seval, hE.P, zz, hW.nb, hW.nb0]
  obtain ⟨CV, hCV⟩ : ∃ CV : AObj, CV = .cells [.int .i64 V.k, .int .i64 V.n, .string V.s, .slice a2 V.l.length cap2, .slice a3 V.f.length cap3] 25 true := ⟨_, rfl⟩
  obtain ⟨CW, hCW⟩ : ∃ CW : AObj, CW = .cells [.int .i64 W.k, .int .i64 W.n, .string W.s, .slice d2 W.l.length dap2, .slice d3 W.f.length dap3] 25 true := ⟨_, rfl⟩
  rw [← hCV, ← hCW]
  have k0 : Keep h ((h.push CV).push CW) := ((Keep.refl h).push hW).push (hW.push _)
  have w0 : WF E ((h.push CV).push CW) := (hW.push _).push _
  have ga : ((h.push CV).push CW).get h.next = some CV := by rw [get_push, if_neg (by simp), get_push, if_pos rfl]
  have gb : ((h.push CV).push CW).get (h.next + 1) = some CW := by rw [get_push, if_pos (by simp)]
  generalize (h.push CV).push CW = H at *
  rw [hCV] at ga
  rw [hCW] at gb
  have nb0 : (h.next < E.base) = False := hW.nb0
  have nb1 : (h.next + 1 < E.base) = False := hW.nb 1
  refine (awake_at hE w0).mono ?_
  rintro v h1 ⟨rfl, k1', w1⟩
  have ga1 := k1'.get _ _ ga
  have gb1 := k1'.get _ _ gb
  have k1 := k0.trans k1'
  simp only [push_cast, seval, hE.P, zz, ga1, gb1, nb0, nb1]
  rw [bs2_val, kalloc_some]
  have hx1 : Own (h1.push (.cells [.int .i64 V.k, .int .i64 V.n, .string V.s, .slice a2 V.l.length cap2, .slice a3 V.f.length cap3, .int .i64 W.k, .int .i64 W.n, .string W.s, .slice d2 W.l.length dap2, .slice d3 W.f.length dap3] 25 true)) 25 5 h1.next 2 [.int .i64 V.k, .int .i64 V.n, .string V.s, .slice a2 V.l.length cap2, .slice a3 V.f.length cap3, .int .i64 W.k, .int .i64 W.n, .string W.s, .slice d2 W.l.length dap2, .slice d3 W.f.length dap3] (.slice (some ⟨h1.next, 0, none⟩) 2 2) :=
    .inr ⟨h1.next, 2, [], true, rfl, by simp [get_push], rfl, rfl, Nat.le_refl _, Nat.le_refl _, by omega⟩
  have k2' : Keep h1 (h1.push (.cells [.int .i64 V.k, .int .i64 V.n, .string V.s, .slice a2 V.l.length cap2, .slice a3 V.f.length cap3, .int .i64 W.k, .int .i64 W.n, .string W.s, .slice d2 W.l.length dap2, .slice d3 W.f.length dap3] 25 true)) := (Keep.refl h1).push w1
  have w2 := w1.push (.cells [.int .i64 V.k, .int .i64 V.n, .string V.s, .slice a2 V.l.length cap2, .slice a3 V.f.length cap3, .int .i64 W.k, .int .i64 W.n, .string W.s, .slice d2 W.l.length dap2, .slice d3 W.f.length dap3] 25 true)
  have ga2 := k2'.get _ _ ga1
  have gb2 := k2'.get _ _ gb1
  have k2 := k1.trans k2'
  generalize h1.push (.cells [.int .i64 V.k, .int .i64 V.n, .string V.s, .slice a2 V.l.length cap2, .slice a3 V.f.length cap3, .int .i64 W.k, .int .i64 W.n, .string W.s, .slice d2 W.l.length dap2, .slice d3 W.f.length dap3] 25 true) = H2 at *
  obtain ⟨G', hsl', hsub, hfz', _⟩ := Own.addF w2 (hG.keep k2) hx1
  simp only [push_cast, seval, hE.P, zz]
  refine (vast_at hE w2 hfz' (l := [V, W]) hsl' (RepLs.app (RepLs.one (hVC.sub hsub)) (RepLs.one (hWC.sub hsub)))).mono ?_
  rintro v h3 ⟨⟨bb, rfl, hsum⟩, k3', w3⟩
  have ga3 := k3'.get _ _ ga2
  have gb3 := k3'.get _ _ gb2
  have k3 := k2.trans k3'
  simp only [push_cast, seval, hE.P, zz]
  refine kif_split (fun hb => ?_) (fun hb => ?_)
  · subst hb
    simp only [push_cast, seval, hE.P, zz]
    exact ⟨k3, w3⟩
  subst hb
  have hsz : V.sz ≤ 5000 ∧ W.sz ≤ 5000 := by have := hsum rfl; simp at this; omega
  clear hsum hsl' hfz' hsub hx1
  simp only [push_cast, seval, hE.P, zz]
  refine (fresh_at hE w3 (W := 32768) (nS := 8192) (by omega) (by omega) (by omega) (by omega)).mono ?_
  rintro v h4 ⟨L, rfl, H4, hL, k4', w4⟩
  have ga4 := k4'.get _ _ ga3
  have gb4 := k4'.get _ _ gb3
  have k4 := k3.trans k4'
  have hlow : ∀ b, b ∈ L.blocks → h.next + 1 < b := fun b hb => by
    have := hL b hb; have := k3'.next; have := (w0.live _ _ gb).2; have := k1'.next; have := k2'.next; omega
  have hGlt : ∀ b c, G b = some c → b < h.next := fun b c hb => by
    obtain ⟨e, fx, hh⟩ := hG b c hb
    exact (hW.live _ _ hh).2
  have hsep : Sep L G := fun b hb => by
    cases hc : G b with
    | none => rfl
    | some c => have := hGlt b c hc; have := hlow b hb; omega
  have hkeepB : ∀ {h' h'' : Heap}, Keep h h' → KeepB L h' h'' → Keep h h'' := fun {h' h''} k kb => ⟨fun b o hb => kb.get b o (fun hh => by have := hlow _ hh; have := (hW.live _ _ hb).2; omega) (k.get b o hb), by have := k.next; have := kb.next; omega⟩
  simp only [push_cast, seval, hE.P, zz, nilH, ga4, nb0]
  refine (build_at hE H4 (V := V) (by omega) w4 (hG.keep k4) hsep hVC).mono ?_
  rintro v h5 ⟨rfl, H5, k5', w5⟩
  have ga5 := k5'.get _ _ (fun hh => by have := hlow _ hh; omega) ga4
  have gb5 := k5'.get _ _ (fun hh => by have := hlow _ hh; omega) gb4
  have hG5 := hsep.frz (hG.keep k4) k5'
  have k5 := hkeepB k4 k5'
  by_cases hgV : goodV V = 0
  · have hS : StepSays E := step_at hE
    obtain ⟨r1, r2⟩ := good_room hgV 0
    rw [buildO_good hgV (by simp [allO_nil]) (by simp)] at H5 ⊢
    simp only [List.length_nil, List.nil_append, Nat.zero_add] at H5 ⊢
    refine kput_gen ?_
    intro tm1 hf
    have e2 := hf 2; have e3 := hf 3; have e4 := hf 4; have e7 := hf 7
    clear hf
    simp only [push_cast, seval] at e2 e3 e4 e7
    simp only [push_cast, seval, hE.P, zz, e2, e3, e4, e7, gb5, nb1]
    refine (build_at hE H5 (V := W) (by omega) w5 hG5 hsep hWC).mono ?_
    rintro v h6 ⟨rfl, H6, k6', w6⟩
    have ga6 := k6'.get _ _ (fun hh => by have := hlow _ hh; omega) ga5
    have gb6 := k6'.get _ _ (fun hh => by have := hlow _ hh; omega) gb5
    have hG6 := hsep.frz hG5 k6'
    have k6 := hkeepB k5 k6'
    by_cases hgW : goodV W = 0
    · obtain ⟨r3, r4⟩ := good_room hgW (obs 0 V).length
      rw [buildO_good hgW r1 r2] at H6 ⊢
      simp only at H6 ⊢
      have TV : Stands (obs 0 V ++ obs (obs 0 V).length W) (hOf ((obs 0 V).length - 1)) V := ⟨0, by have := There.app (C := obs (obs 0 V).length W) (There.self [] (obs 0 V)); simpa using this, by rw [Nat.zero_add], by omega⟩
      have TW : Stands (obs 0 V ++ obs (obs 0 V).length W) (hOf ((obs 0 V).length + (obs (obs 0 V).length W).length - 1)) W := ⟨(obs 0 V).length, There.self _ _, rfl, by omega⟩
      generalize obs 0 V ++ obs (obs 0 V).length W = O at *
      generalize hOf ((obs 0 V).length - 1) = xv at *
      generalize hOf ((obs 0 V).length + (obs (obs 0 V).length W).length - 1) = xw at *
      have nV := Rep.nums V.sz V (Nat.le_refl _) hVC
      have nW := Rep.nums W.sz W (Nat.le_refl _) hWC
      have rV := TV.rd hgV nV
      have rW := TW.rd hgW nW
      have lV := TV.lt
      have lW := TW.lt
      refine kput_gen ?_
      intro tm2 hf
      have f2 := hf 2; have f3 := hf 3; have f4 := hf 4; have f7 := hf 7; have f8 := hf 8; have f9 := hf 9
      clear hf
      simp only [push_cast, seval, e2, e3, e4, e7] at f2 f3 f4 f7 f8 f9
      clear e2 e3 e4 e7
      simp only [push_cast, seval, hE.P, zz, f2, f3, f4, f7, f8, f9]
      refine (compD_at hE H6 w6 lV lW rV rW hgV hgW).mono ?_
      rintro v h7 ⟨rfl, k7', w7⟩
      have H7 := H6.keep k7'
      have ga7 := k7'.get _ _ ga6
      have gb7 := k7'.get _ _ gb6
      have hG7 := hG6.keep k7'
      have k7 := k6.trans k7'
      refine kput_gen ?_
      intro tm3 hf
      have e2 := hf 2; have e3 := hf 3; have e4 := hf 4; have e7 := hf 7; have e8 := hf 8
      clear hf
      simp only [push_cast, seval, f2, f3, f4, f7, f8] at e2 e3 e4 e7 e8
      clear f2 f3 f4 f7 f8 f9
      simp only [push_cast, seval, hE.P, zz, e2, e3, e4, e7, e8]
      refine (hashD_at hE H7 w7 lV rV hgV).mono ?_
      rintro v h8 ⟨rfl, k8', w8⟩
      have H8 := H7.keep k8'
      have ga8 := k8'.get _ _ ga7
      have gb8 := k8'.get _ _ gb7
      have hG8 := hG7.keep k8'
      have k8 := k7.trans k8'
      refine kput_gen ?_
      intro tm4 hf
      have f2 := hf 2; have f3 := hf 3; have f4 := hf 4; have f7 := hf 7; have f8 := hf 8; have f12 := hf 12; have f13 := hf 13
      clear hf
      simp only [push_cast, seval, e2, e3, e4, e7, e8] at f2 f3 f4 f7 f8 f12 f13
      clear e2 e3 e4 e7 e8
      simp only [push_cast, seval, hE.P, zz, f2, f3, f4, f7, f8, f12, f13]
      refine (hS H8 w8 TV hgV nV hp).mono ?_
      rintro v h9 ⟨⟨sy, sb, rfl, hsb⟩, k9', w9⟩
      have H9 := H8.keep k9'
      have ga9 := k9'.get _ _ ga8
      have gb9 := k9'.get _ _ gb8
      have hG9 := hG8.keep k9'
      have k9 := k8.trans k9'
      refine kput_gen ?_
      intro tm5 hf
      have e2 := hf 2; have e3 := hf 3; have e4 := hf 4; have e7 := hf 7; have e12 := hf 12; have e13 := hf 13; have e14 := hf 14; have e15 := hf 15
      clear hf
      simp only [push_cast, seval, f2, f3, f4, f7, f12, f13] at e2 e3 e4 e7 e12 e13 e14 e15
      clear f2 f3 f4 f7 f8 f12 f13
      simp only [push_cast, seval, hE.P, zz, e2, e3, e4, e7, e12, e13, e14, e15, ga9, nb0]
      refine (GetR_at hE hp w9 hG9 hVC).mono ?_
      rintro v h10 ⟨⟨r, ⟨gc, gb', rfl, hlk⟩, hrs⟩, k10', w10⟩
      have H10 := H9.keep k10'
      have ga10 := k10'.get _ _ ga9
      have gb10 := k10'.get _ _ gb9
      have hG10 := hG9.keep k10'
      have k10 := k9.trans k10'
      refine kput_gen ?_
      intro tm6 hf
      have f2 := hf 2; have f3 := hf 3; have f4 := hf 4; have f7 := hf 7; have f12 := hf 12; have f13 := hf 13; have f14 := hf 14; have f15 := hf 15; have f16 := hf 16; have f17 := hf 17; have f18 := hf 18
      clear hf
      simp only [push_cast, seval, e2, e3, e4, e7, e12, e13, e14, e15] at f2 f3 f4 f7 f12 f13 f14 f15 f16 f17 f18
      clear e2 e3 e4 e7 e12 e13 e14 e15
      have hgc : ∃ n1 n2 ss q1 m1 d1 q2 m2 d2, gc = [.int .i64 n1, .int .i64 n2, .string ss, .slice q1 m1 d1, .slice q2 m2 d2] := by
        cases r with
        | none => obtain ⟨_, rfl⟩ := hlk; exact ⟨_, _, _, _, _, _, _, _, _, rfl⟩
        | some X =>
          obtain ⟨_, hR⟩ := hlk
          obtain ⟨sl3, sf3, cl3, cf3, rfl, hsl3, hsf3, _⟩ := hR.cells
          obtain ⟨u2, v2, rfl, _, _⟩ := hsl3.slice
          obtain ⟨u3, v3, rfl, _, _⟩ := hsf3.slice
          exact ⟨_, _, _, _, _, _, _, _, _, rfl⟩
      obtain ⟨n1, n2, ss, q1, m1, d1, q2, m2, d2, hgce⟩ := hgc
      have hb20 : (if stepOk p = true then gb' else false) = sb := by
        cases hst : stepOk p with
        | false =>
          rw [hst] at hsb
          exact hsb.1.symm
        | true =>
          rw [hst, if_pos rfl, ← hrs hst] at hsb
          rw [if_pos rfl]
          cases r with
          | none => rw [hlk.1]; exact hsb.1.symm
          | some X => rw [hlk.1]; exact hsb.1.symm
      rw [hgce]
      simp only [push_cast, seval, hE.P, zz, f2, f3, f4, f7, f12, f13, f14, f15, f16, f17, f18, w10.nb, w10.nb0]
      have k11' := (Keep.refl h10).push (o := .cells [.int .i64 n1, .int .i64 n2, .string ss, .slice q1 m1 d1, .slice q2 m2 d2] 25 true) w10
      have w11 := w10.push (.cells [.int .i64 n1, .int .i64 n2, .string ss, .slice q1 m1 d1, .slice q2 m2 d2] 25 true)
      have g19 : (h10.push (.cells [.int .i64 n1, .int .i64 n2, .string ss, .slice q1 m1 d1, .slice q2 m2 d2] 25 true)).get h10.next = some (.cells [.int .i64 n1, .int .i64 n2, .string ss, .slice q1 m1 d1, .slice q2 m2 d2] 25 true) := by rw [get_push, if_pos rfl]
      have ga11 := k11'.get _ _ ga10
      have gb11 := k11'.get _ _ gb10
      have hG11 := hG10.keep k11'
      have H11 := H10.keep k11'
      have k11 := k10.trans k11'
      have nb19 := w11.nlt g19
      generalize h10.push (.cells [.int .i64 n1, .int .i64 n2, .string ss, .slice q1 m1 d1, .slice q2 m2 d2] 25 true) = h11 at *
      refine (isStep_at hE hp).mono ?_
      rintro v h12 ⟨rfl, hh12⟩
      subst hh12
      refine kput_gen ?_
      intro tm7 hf
      have e2 := hf 2; have e3 := hf 3; have e4 := hf 4; have e7 := hf 7; have e12 := hf 12; have e13 := hf 13; have e14 := hf 14; have e15 := hf 15; have e16 := hf 16; have e17 := hf 17; have e18 := hf 18; have e19 := hf 19; have e20 := hf 20
      clear hf
      simp only [push_cast, seval, f2, f3, f4, f7, f12, f13, f14, f15, f16, f17, f18] at e2 e3 e4 e7 e12 e13 e14 e15 e16 e17 e18 e19 e20
      clear f2 f3 f4 f7 f12 f13 f14 f15 f16 f17 f18
      simp only [push_cast, seval, hE.P, zz, boolE]
      refine kif_cutN (fun tm h' => fget tm 3 = .pointer (some ⟨h.next, 0, none⟩) ∧ fget tm 4 = .pointer (some ⟨h.next + 1, 0, none⟩) ∧ fget tm 7 = .pointer (some ⟨L.ph, 0, none⟩) ∧ fget tm 12 = .int .i64 (cmpV V W) ∧ fget tm 13 = .int .i64 0 ∧ fget tm 14 = .int .u64 (fnv fnvB (bytesV V) : Nat) ∧ fget tm 15 = .int .i64 0 ∧
        fget tm 16 = .int .u64 sy ∧ fget tm 17 = .bool sb ∧ fget tm 18 = .int .i64 0 ∧ fget tm 19 = .pointer (some ⟨h10.next, 0, none⟩) ∧ fget tm 20 = .bool sb ∧ h' = h12) ?_ ?_
      rotate_left
      · refine kif_split (fun hb => ?_) (fun hb => ?_)
        · have hst : stepOk p = false := by simpa using hb
          rw [hst] at hb20
          have hb20 : sb = false := hb20.symm
          simp only [push_cast, seval, hE.P, zz, e3, e4, e7, e12, e13, e14, e15, e16, e17, e18, e19, hb20]
        · have hst : stepOk p = true := by simpa using hb
          rw [if_pos hst] at hb20
          simp only [push_cast, seval, hE.P, zz, e3, e4, e7, e12, e13, e14, e15, e16, e17, e18, e19, e20, hb20]
      clear e2 e3 e4 e7 e12 e13 e14 e15 e16 e17 e18 e19 e20
      rintro tm8 h13 ⟨f3, f4, f7, f12, f13, f14, f15, f16, f17, f18, f19, f20, hh13⟩
      subst hh13
      simp only [push_cast, seval, hE.P, zz]
      refine wdraw_mono (Q := fun tm h' => fget tm 7 = .pointer (some ⟨L.ph, 0, none⟩) ∧ fget tm 16 = .int .u64 sy ∧ fget tm 17 = .bool sb ∧ fget tm 19 = .pointer (some ⟨h10.next, 0, none⟩) ∧ fget tm 115 = .bool false ∧ Keep h13 h' ∧ WF E h') ?_ ?_
      rotate_left
      · refine wdraw_pairsF [(16, 15)] (by rw [hE.P]; decide +kernel) (by rw [hE.P]; decide +kernel) (by rw [hE.P]; decide +kernel) ?_
        intro F hF
        simp only [push_cast, seval, hE.P, zz, wpu_nil, wpu_cons, wpu_guard, f3, f4, f7, f12, f13, f14, f15, f16, f17, f18, f19, f20, ga11, gb11, nb0, nb1]
        refine (compareR_at hE V.sz V (Nat.le_refl _) W (good_parts hgV).1 (good_parts hgW).1 w11 hG11 hG11 hVC hWC).mono ?_
        rintro v h15 ⟨rfl, k15', w15⟩
        have ga15 := k15'.get _ _ ga11
        have hG15 := hG11.keep k15'
        have bc : (cmpV V W != cmpV V W) = false := by simp
        simp only [push_cast, seval, hE.P, zz, wpu_nil, wpu_cons, wpu_guard, bc, f3, f4, f7, f12, f13, f14, f15, f16, f17, f18, f19, f20]
        refine (firstR_at hE).mono ?_
        rintro v h16 ⟨rfl, hh16⟩
        subst hh16
        simp only [push_cast, seval, hE.P, zz, wpu_nil, wpu_cons, wpu_guard, f3, f4, f7, f12, f13, f14, f15, f16, f17, f18, f19, f20, ga15, nb0]
        refine (bytesR_at hE V.sz V (Nat.le_refl _) (hbl hsz.1) w15 hG15 hVC).mono ?_
        rintro v h17 ⟨hown, k17', w17⟩
        have ga17 := k17'.get _ _ ga15
        obtain ⟨ya, yk, rfl, _⟩ := Own.slice hown
        have bh : (((fnv fnvB (bytesV V) : Nat) : Int) != ((fnv fnvB (bytesV V) : Nat) : Int)) = false := by simp
        have b0 : ((0 : Int) != 0) = false := rfl
        simp only [push_cast, seval, hE.P, zz, wpu_nil, wpu_cons, wpu_guard, f3, f4, f7, f12, f13, f14, f15, f16, f17, f18, f19, f20]
        refine (moreR_at hE w17 (by decide) (bytesV_lt V) hown).mono ?_
        rintro v h18 ⟨rfl, hh18⟩
        subst hh18
        simp only [push_cast, seval, hE.P, zz, wpu_nil, wpu_cons, wpu_guard, bh, b0, boolF, f3, f4, f7, f12, f13, f14, f15, f16, f17, f18, f19, f20]
        refine hF _ (fun pr hpr => ?_) ?_
        · simp only [List.mem_singleton] at hpr
          subst hpr
          simp only [push_cast, seval, hE.P, zz, pairOk, f3, ga15, nb0]
          intro _
          trivial
        · simp only [push_cast, seval, hE.P, zz, f7, f16, f17, f19]
          exact ⟨k15'.trans k17', w17⟩
      rintro tm9 h14 ⟨e7, e16, e17, e19, e115, k14', w14⟩
      have g19b := k14'.get _ _ g19
      have hG14 := hG11.keep k14'
      have H14 := H11.keep k14'
      have k14 := k11.trans k14'
      simp only [push_cast, seval, hE.P, zz, e7, e16, e17, e19, e115]
      refine kif_split (fun hb => ?_) (fun hb => ?_)
      · have hsb0 : sb = false := by simpa using hb
        have hsy : sy = 0 := by
          cases hr0 : (if stepOk p = true then stepW V p else none) with
          | none => rw [hr0] at hsb; exact hsb.2
          | some X => rw [hr0] at hsb; rw [hsb.1] at hsb0; cases hsb0
        rw [hsy] at e16
        simp only [push_cast, seval, hE.P, zz, e16]
        exact ⟨k14, w14⟩
      · have hsb1 : sb = true := by simpa using hb
        have hst : stepOk p = true := by
          cases hst : stepOk p with
          | true => rfl
          | false => rw [hst] at hsb; rw [hsb.1] at hsb1; cases hsb1
        rw [if_pos hst, ← hrs hst] at hsb
        cases r with
        | none => rw [hsb.1] at hsb1; cases hsb1
        | some X =>
          have hX : stepW V p = some X := (hrs hst).symm
          have hpart := step_part hX
          have gX := good_part hgV hpart
          have nX := allV_part nV hpart
          have rX := hsb.2.rd gX nX
          have lX := hsb.2.lt
          obtain ⟨_, hRX⟩ := hlk
          rw [hgce] at hRX
          simp only [push_cast, seval, hE.P, zz, e7, e16, e17, e19, g19b, nb19]
          refine (reads_at hE H14 w14 lX rX gX hG14 hRX).mono ?_
          rintro v h20 ⟨rfl, k20, w20⟩
          simp only [push_cast, seval, hE.P, zz]
          exact ⟨k14.trans k20, w20⟩
    · rw [buildO_bad hgW]
      simp only
      have eg : (goodV W != 0) = true := by simp [hgW]
      refine kput_gen ?_
      intro tm2 hf
      have f2 := hf 2; have f3 := hf 3; have f4 := hf 4; have f7 := hf 7; have f9 := hf 9
      clear hf
      simp only [push_cast, seval, e2, e3, e4, e7] at f2 f3 f4 f7 f9
      clear e2 e3 e4 e7
      simp only [push_cast, seval, hE.P, zz, eg, f2, f3, f4, f7, f9, ga6, nb0]
      refine (goodR_at hE (V := V) (by omega) hsm (hbl hsz.1) w6 hG6 hVC).mono ?_
      rintro v h7 ⟨rfl, k7', w7⟩
      rw [hgV]
      have gb7 := k7'.get _ _ gb6
      simp only [push_cast, seval, hE.P, zz, f3, f4, gb7, nb1]
      refine (goodR_at hE (V := W) (by omega) hsm2 (hbl2 hsz.2) w7 (hG6.keep k7') hWC).mono ?_
      rintro v h8 ⟨rfl, k8', w8⟩
      simp only [push_cast, seval, hE.P, zz, eg]
      exact ⟨(k6.trans k7').trans k8', w8⟩
  · have hbo : buildO 32768 8192 [] V = (.tuple #[.int .u64 0, .int .i64 (goodV V)], []) := by
      unfold buildO; rw [if_neg hgV]
    rw [hbo] at H5 ⊢
    simp only at H5 ⊢
    have eg : (goodV V != 0) = true := by simp [hgV]
    simp only [push_cast, seval, hE.P, zz, gb5, nb1]
    refine (build_at hE H5 (V := W) (by omega) w5 hG5 hsep hWC).mono ?_
    rintro v h6 ⟨rfl, H6, k6', w6⟩
    have ga6 := k6'.get _ _ (fun hh => by have := hlow _ hh; omega) ga5
    have hG6 := hsep.frz hG5 k6'
    have k6 := hkeepB k5 k6'
    have hbt : ∃ y f, (buildO 32768 8192 [] W).1 = .tuple #[y, f] := by
      unfold buildO
      repeat' split
      all_goals exact ⟨_, _, rfl⟩
    obtain ⟨y, f, hy⟩ := hbt
    rw [hy]
    simp only [push_cast, seval, hE.P, zz, eg, ga6, nb0]
    refine (goodR_at hE (V := V) (by omega) hsm (hbl hsz.1) w6 hG6 hVC).mono ?_
    rintro v h7 ⟨rfl, k7', w7⟩
    simp only [push_cast, seval, hE.P, zz, eg]
    exact ⟨k6.trans k7', w7⟩
end Go.Proofs.YthfopcdammlmfaaGreatDoor
