/- One table here. -/
/- Merged by a program of ours: TabD TabM. -/
import Derived.Test.YthfopcdammlmfaaGreatDoorA8
import Derived.Test.YthfopcdammlmfaaGreatDoorChecked
import Derived.Lib.Bytealg
set_option maxRecDepth 10000
set_option linter.all false
set_option linter.unusedSimpArgs false
set_option linter.unusedVariables false
/- The facts on the types of this program, one by one, each by the kernel. (Printed by a program of ours.) -/
namespace Go.Proofs.YthfopcdammlmfaaGreatDoor
open Go.Tm
def knownT : FuncId → List Value → Option Value := fun f args => if f = 165 then (match args with | [.string s] => if s.size ≤ 9223372036854775807 then some (.bool (Lib.validD s.data.toList)) else none | _ => none) else if f = 81 then (match args with | [.string a, .string b] => some (.int .i64 (Lib.compareBytes a.data.toList b.data.toList)) | _ => none) else if f = 176 then (match args with | [.string s, .string ⟨⟨[c]⟩⟩] => some (.int .i64 (Lib.indexByte s.data.toList c)) | _ => none) else none
def iterT : FuncId → List Value → Heap → Nat → Option (Option Value) := fun _ _ _ _ => none
structure EOk (E : Env) : Prop where
 P : E.P = Tryz.prog
 known : E.known = knownT
 iter : E.iter = iterT
theorem en {E : Env} (hE : EOk E) {f : FuncId} {fn : Func} {b : Code} (hf : Tryz.prog.funcs[f]? = some fn) (hb : fn.body = some b) {args : List Value} (hk : knownT f args = none) {n : Nat} (ht : fn.ntmps = n) (hl : Nat.ble args.length n = true) (hn : (fn.name == "runtime.NumGoroutine") = false) {rs : List ResultVar} (hr : fn.results.toList = rs) {h : Heap} {Q : Value → Heap → Prop} (H : wpc E b (kleave E rs Q) (afrom 0 args .leaf) h) : CallsTo E f args h Q :=
 calls_of_runs (by rw [hE.P]; exact hf) hb (by rw [hE.known]; exact hk) (by rw [ht]; exact Nat.le_of_ble_eq_true hl) hn hr (wpc_runs _ _ _ _ H)
theorem iter_none {E : Env} (hE : EOk E) : IterOk E := fun f lb h i o ho => by rw [hE.iter] at ho; cases ho
section
variable {E : Env} {h : Heap} {b o : Nat} {ev : Operand → Value}
theorem sz2 : asz Tryz.prog 2 = some 1 := by kernel_rfl
theorem ag2 : aagg Tryz.prog 2 = some false := by kernel_rfl
theorem sz3 : asz Tryz.prog 3 = some 1 := by kernel_rfl
theorem ag3 : aagg Tryz.prog 3 = some false := by kernel_rfl
theorem zr3 : azero Tryz.prog 3 = some (.int .i64 0) := by kernel_rfl
theorem sz4 : asz Tryz.prog 4 = some 1 := by kernel_rfl
theorem ag4 : aagg Tryz.prog 4 = some false := by kernel_rfl
theorem sz5 : asz Tryz.prog 5 = some 1 := by kernel_rfl
theorem ag5 : aagg Tryz.prog 5 = some false := by kernel_rfl
theorem zr5 : azero Tryz.prog 5 = some (.int .u8 0) := by kernel_rfl
theorem sz9 : asz Tryz.prog 9 = some 1 := by kernel_rfl
theorem ag9 : aagg Tryz.prog 9 = some false := by kernel_rfl
theorem zr21 : azero Tryz.prog 21 = some (.int .i32 0) := by kernel_rfl
theorem sz22 : asz Tryz.prog 22 = some 1 := by kernel_rfl
theorem ag22 : aagg Tryz.prog 22 = some false := by kernel_rfl
theorem sz23 : asz Tryz.prog 23 = some 1 := by kernel_rfl
theorem ag23 : aagg Tryz.prog 23 = some false := by kernel_rfl
theorem sz25 : asz Tryz.prog 25 = some 5 := by kernel_rfl
theorem ag25 : aagg Tryz.prog 25 = some true := by kernel_rfl
theorem zr25 : azero Tryz.prog 25 = some (.agg #[.int .i64 0, .int .i64 0, .string .empty, .slice none 0 0, .slice none 0 0]) := by kernel_rfl
theorem sz28 : asz Tryz.prog 28 = some 1 := by kernel_rfl
theorem ag28 : aagg Tryz.prog 28 = some false := by kernel_rfl
theorem sz30 : asz Tryz.prog 30 = some 1 := by kernel_rfl
theorem ag30 : aagg Tryz.prog 30 = some false := by kernel_rfl
theorem zr30 : azero Tryz.prog 30 = some (.int .i64 0) := by kernel_rfl
theorem sz33 : asz Tryz.prog 33 = some 1 := by kernel_rfl
theorem ag33 : aagg Tryz.prog 33 = some false := by kernel_rfl
theorem zr33 : azero Tryz.prog 33 = some (.int .u64 0) := by kernel_rfl
theorem sz37 : asz Tryz.prog 37 = some 1 := by kernel_rfl
theorem ag37 : aagg Tryz.prog 37 = some false := by kernel_rfl
theorem sz42 : asz Tryz.prog 42 = some 1 := by kernel_rfl
theorem ag42 : aagg Tryz.prog 42 = some false := by kernel_rfl
theorem sz50 : asz Tryz.prog 50 = some 1 := by kernel_rfl
theorem ag50 : aagg Tryz.prog 50 = some false := by kernel_rfl
theorem sz79 : asz Tryz.prog 79 = some 1 := by kernel_rfl
theorem ag79 : aagg Tryz.prog 79 = some true := by kernel_rfl
theorem zr79 : azero Tryz.prog 79 = some (.agg #[.pointer none]) := by kernel_rfl
theorem sz82 : asz Tryz.prog 82 = some 16 := by kernel_rfl
theorem sz84 : asz Tryz.prog 84 = some 1 := by kernel_rfl
theorem ag84 : aagg Tryz.prog 84 = some false := by kernel_rfl
theorem zr86 : azero Tryz.prog 86 = some (.agg #[.pointer none, .pointer none, .int .u64 0, .int .u64 0, .int .u64 0, .int .u64 0, .int .u64 0, .int .u64 0, .int .u64 0, .int .u64 0, .int .u64 0, .int .u64 0, .int .u64 0, .int .u64 0, .int .u64 0, .int .u64 0, .int .u64 0, .int .u64 0, .nilIface]) := by kernel_rfl
theorem zr88 : azero Tryz.prog 88 = some (.agg #[.slice none 0 0, .slice none 0 0, .int .i64 0, .int .i64 0, .int .i64 0, .bool false]) := by kernel_rfl
theorem sz91 : asz Tryz.prog 91 = some 6 := by kernel_rfl
theorem ag91 : aagg Tryz.prog 91 = some true := by kernel_rfl
theorem zr91 : azero Tryz.prog 91 = some (.agg #[.string .empty, .int .i64 0, .int .i64 0, .string .empty, .slice none 0 0, .slice none 0 0]) := by kernel_rfl
theorem sz92 : asz Tryz.prog 92 = some 1 := by kernel_rfl
theorem ag92 : aagg Tryz.prog 92 = some false := by kernel_rfl
theorem zr94 : azero Tryz.prog 94 = some (.agg #[.slice none 0 0, .int .i64 0, .int .i64 0, .int .i64 0]) := by kernel_rfl
theorem sz103 : asz Tryz.prog 103 = some 5 := by kernel_rfl
theorem ag103 : aagg Tryz.prog 103 = some true := by kernel_rfl
theorem zr103 : azero Tryz.prog 103 = some (.agg #[.int .i64 0, .int .i64 0, .int .i64 0, .bool false, .int .i64 0]) := by kernel_rfl
theorem sz116 : asz Tryz.prog 116 = some 1 := by kernel_rfl
theorem ag116 : aagg Tryz.prog 116 = some false := by kernel_rfl
theorem zr119 : azero Tryz.prog 119 = some (.agg #[.pointer none, .pointer none, .int .i64 0, .int .i64 0, .int .i64 0]) := by kernel_rfl
theorem zr125 : azero Tryz.prog 125 = some (.agg #[.pointer none, .int .i64 0]) := by kernel_rfl
theorem sz127 : asz Tryz.prog 127 = some 3 := by kernel_rfl
theorem ag127 : aagg Tryz.prog 127 = some true := by kernel_rfl
theorem zr127 : azero Tryz.prog 127 = some (.agg #[.int .i64 0, .slice none 0 0, .slice none 0 0]) := by kernel_rfl
theorem sz157 : asz Tryz.prog 157 = some 1 := by kernel_rfl
theorem ag157 : aagg Tryz.prog 157 = some false := by kernel_rfl
theorem sz159 : asz Tryz.prog 159 = some 4 := by kernel_rfl
theorem zr159 : azero Tryz.prog 159 = some (.agg #[.int .u32 0, .bool false, .int .i64 0, .int .i64 0]) := by kernel_rfl
theorem zr166 : azero Tryz.prog 166 = some (.agg #[.pointer none, .slice none 0 0, .bool false]) := by kernel_rfl
theorem sz190 : asz Tryz.prog 190 = some 8 := by kernel_rfl
theorem zr190 : azero Tryz.prog 190 = some (.agg #[.int .i64 0, .slice none 0 0, .string .empty, .int .i64 0, .int .i64 0, .string .empty, .slice none 0 0, .slice none 0 0]) := by kernel_rfl
theorem ld2 (hE : E.P = Tryz.prog) {a : Addr} : aload E h 2 (.pointer (some a)) = (acells E h a 1).bind fun l => l[0]? := by simp only [aload, hE, ag2]
theorem st2 (hE : E.P = Tryz.prog) {a : Addr} {v : Value} : astore E h 2 (.pointer (some a)) v = if 1 = (vcells v).length then awrite h a (vcells v) else none := by simp [astore, hE, sz2]
theorem ld3 (hE : E.P = Tryz.prog) {a : Addr} : aload E h 3 (.pointer (some a)) = (acells E h a 1).bind fun l => l[0]? := by simp only [aload, hE, ag3]
theorem st3 (hE : E.P = Tryz.prog) {a : Addr} {v : Value} : astore E h 3 (.pointer (some a)) v = if 1 = (vcells v).length then awrite h a (vcells v) else none := by simp [astore, hE, sz3]
theorem ld4 (hE : E.P = Tryz.prog) {a : Addr} : aload E h 4 (.pointer (some a)) = (acells E h a 1).bind fun l => l[0]? := by simp only [aload, hE, ag4]
theorem st4 (hE : E.P = Tryz.prog) {a : Addr} {v : Value} : astore E h 4 (.pointer (some a)) v = if 1 = (vcells v).length then awrite h a (vcells v) else none := by simp [astore, hE, sz4]
theorem ld5 (hE : E.P = Tryz.prog) {a : Addr} : aload E h 5 (.pointer (some a)) = (acells E h a 1).bind fun l => l[0]? := by simp only [aload, hE, ag5]
theorem ld9 (hE : E.P = Tryz.prog) {a : Addr} : aload E h 9 (.pointer (some a)) = (acells E h a 1).bind fun l => l[0]? := by simp only [aload, hE, ag9]
theorem st9 (hE : E.P = Tryz.prog) {a : Addr} {v : Value} : astore E h 9 (.pointer (some a)) v = if 1 = (vcells v).length then awrite h a (vcells v) else none := by simp [astore, hE, sz9]
theorem ld22 (hE : E.P = Tryz.prog) {a : Addr} : aload E h 22 (.pointer (some a)) = (acells E h a 1).bind fun l => l[0]? := by simp only [aload, hE, ag22]
theorem st22 (hE : E.P = Tryz.prog) {a : Addr} {v : Value} : astore E h 22 (.pointer (some a)) v = if 1 = (vcells v).length then awrite h a (vcells v) else none := by simp [astore, hE, sz22]
theorem ia22 {a : Addr} {len cap : Nat} {k : IntKind} {n : Int} (ha : a.spot = none) (h0 : 0 ≤ n) (h1 : n < len) : aindexAddr Tryz.prog 22 (.slice (some a) len cap) (.int k n) = some (.pointer (some ⟨a.block, a.off + n.toNat * 5, none⟩)) := by simp [aindexAddr, Tryz.underlying22, sz25, ha, addo, h0, h1]
theorem le22 {a : Option Addr} {len cap : Nat} : alen Tryz.prog 22 (.slice a len cap) = some (.int .i64 len) := by simp [alen, Tryz.underlying22]
theorem in25 : (Tryz.prog.info? 25).map (fun i => (i.size, i.bytes)) = some (5, 80) := by kernel_rfl
theorem mk22 {k k' : IntKind} {l c : Int} (h0 : 0 ≤ l) (h1 : l ≤ c) (h2 : 80 * c ≤ 281474976710656) (h3 : c ≤ 9223372036854775807) : amk Tryz.prog 22 (.int k l) (.int k' c) = some (fun b => .slice (some ⟨b, 0, none⟩) l.toNat c.toNat, .cells (arep c.toNat [.int .i64 0, .int .i64 0, .string .empty, .slice none 0 0, .slice none 0 0]) 25 true) := makeSlice_at (E := { P := Tryz.prog, base := 0, ro := fun _ => none }) ⟨Tryz.underlying22, in25, ⟨_, zr25, rfl⟩, by decide⟩ ⟨_, zr25, rfl⟩ h0 h1 h2 h3
theorem bs22 {v : Value} (hl : (vcells v).length = 5) : abs1 Tryz.prog 22 1 [(0, v)] = some (fun b => .slice (some ⟨b, 0, none⟩) 1 1, .cells (vcells v) 25 true) := buildSlice_one (E := { P := Tryz.prog, base := 0, ro := fun _ => none }) ⟨Tryz.underlying22, in25, ⟨_, zr25, rfl⟩, by decide⟩ hl (by decide)
theorem el22 (hE : E.P = Tryz.prog) : Elem E 22 25 5 80 := ⟨by rw [hE]; exact Tryz.underlying22, by rw [hE]; exact in25, ⟨_, by rw [hE]; exact zr25, rfl⟩, by decide⟩
theorem ld23 (hE : E.P = Tryz.prog) {a : Addr} : aload E h 23 (.pointer (some a)) = (acells E h a 1).bind fun l => l[0]? := by simp only [aload, hE, ag23]
theorem st23 (hE : E.P = Tryz.prog) {a : Addr} {v : Value} : astore E h 23 (.pointer (some a)) v = if 1 = (vcells v).length then awrite h a (vcells v) else none := by simp [astore, hE, sz23]
theorem ia23 {a : Addr} {len cap : Nat} {k : IntKind} {n : Int} (ha : a.spot = none) (h0 : 0 ≤ n) (h1 : n < len) : aindexAddr Tryz.prog 23 (.slice (some a) len cap) (.int k n) = some (.pointer (some ⟨a.block, a.off + n.toNat * 6, none⟩)) := by simp [aindexAddr, Tryz.underlying23, sz91, ha, addo, h0, h1]
theorem le23 {a : Option Addr} {len cap : Nat} : alen Tryz.prog 23 (.slice a len cap) = some (.int .i64 len) := by simp [alen, Tryz.underlying23]
theorem in91 : (Tryz.prog.info? 91).map (fun i => (i.size, i.bytes)) = some (6, 96) := by kernel_rfl
theorem mk23 {k k' : IntKind} {l c : Int} (h0 : 0 ≤ l) (h1 : l ≤ c) (h2 : 96 * c ≤ 281474976710656) (h3 : c ≤ 9223372036854775807) : amk Tryz.prog 23 (.int k l) (.int k' c) = some (fun b => .slice (some ⟨b, 0, none⟩) l.toNat c.toNat, .cells (arep c.toNat [.string .empty, .int .i64 0, .int .i64 0, .string .empty, .slice none 0 0, .slice none 0 0]) 91 true) := makeSlice_at (E := { P := Tryz.prog, base := 0, ro := fun _ => none }) ⟨Tryz.underlying23, in91, ⟨_, zr91, rfl⟩, by decide⟩ ⟨_, zr91, rfl⟩ h0 h1 h2 h3
theorem bs23 {v : Value} (hl : (vcells v).length = 6) : abs1 Tryz.prog 23 1 [(0, v)] = some (fun b => .slice (some ⟨b, 0, none⟩) 1 1, .cells (vcells v) 91 true) := buildSlice_one (E := { P := Tryz.prog, base := 0, ro := fun _ => none }) ⟨Tryz.underlying23, in91, ⟨_, zr91, rfl⟩, by decide⟩ hl (by decide)
theorem el23 (hE : E.P = Tryz.prog) : Elem E 23 91 6 96 := ⟨by rw [hE]; exact Tryz.underlying23, by rw [hE]; exact in91, ⟨_, by rw [hE]; exact zr91, rfl⟩, by decide⟩
theorem ld25 (hE : E.P = Tryz.prog) {a : Addr} : aload E h 25 (.pointer (some a)) = (acells E h a 5).map fun l => .agg l.toArray := by simp only [aload, hE, ag25, sz25]
theorem st25 (hE : E.P = Tryz.prog) {a : Addr} {v : Value} : astore E h 25 (.pointer (some a)) v = if 5 = (vcells v).length then awrite h a (vcells v) else none := by simp [astore, hE, sz25]
theorem al25 : aalloc Tryz.prog ev (.alloc 25) = some (fun b => .pointer (some ⟨b, 0, none⟩), .cells [.int .i64 0, .int .i64 0, .string .empty, .slice none 0 0, .slice none 0 0] 25 true) := by simp [aalloc, zr25, vcells]
theorem fa25_0 {a : Addr} (ha : a.spot = none) : afieldAddr Tryz.prog 25 (.pointer (some a)) 0 = some (.pointer (some ⟨a.block, a.off + 0, none⟩)) := by simp [afieldAddr, Tryz.underlying25, sz3, ha, addo]
theorem fa25_1 {a : Addr} (ha : a.spot = none) : afieldAddr Tryz.prog 25 (.pointer (some a)) 1 = some (.pointer (some ⟨a.block, a.off + 1, none⟩)) := by simp [afieldAddr, Tryz.underlying25, sz2, ha, addo]
theorem fa25_2 {a : Addr} (ha : a.spot = none) : afieldAddr Tryz.prog 25 (.pointer (some a)) 2 = some (.pointer (some ⟨a.block, a.off + 2, none⟩)) := by simp [afieldAddr, Tryz.underlying25, sz9, ha, addo]
theorem fa25_3 {a : Addr} (ha : a.spot = none) : afieldAddr Tryz.prog 25 (.pointer (some a)) 3 = some (.pointer (some ⟨a.block, a.off + 3, none⟩)) := by simp [afieldAddr, Tryz.underlying25, sz22, ha, addo]
theorem fa25_4 {a : Addr} (ha : a.spot = none) : afieldAddr Tryz.prog 25 (.pointer (some a)) 4 = some (.pointer (some ⟨a.block, a.off + 4, none⟩)) := by simp [afieldAddr, Tryz.underlying25, sz23, ha, addo]
theorem bd25 {ps : List (Nat × Value)} : abuild Tryz.prog 25 ps = (afill (fun i => ([(0, 1), (1, 1), (2, 1), (3, 1), (4, 1)] : List (Nat × Nat))[i]?) [.int .i64 0, .int .i64 0, .string .empty, .slice none 0 0, .slice none 0 0] ps).map fun l => .agg l.toArray := by simp [abuild, zr25, Tryz.underlying25, aplaces, sz2, sz22, sz23, sz3, sz9, vcells]
theorem ld28 (hE : E.P = Tryz.prog) {a : Addr} : aload E h 28 (.pointer (some a)) = (acells E h a 1).bind fun l => l[0]? := by simp only [aload, hE, ag28]
theorem ld30 (hE : E.P = Tryz.prog) {a : Addr} : aload E h 30 (.pointer (some a)) = (acells E h a 1).bind fun l => l[0]? := by simp only [aload, hE, ag30]
theorem ld33 (hE : E.P = Tryz.prog) {a : Addr} : aload E h 33 (.pointer (some a)) = (acells E h a 1).bind fun l => l[0]? := by simp only [aload, hE, ag33]
theorem st33 (hE : E.P = Tryz.prog) {a : Addr} {v : Value} : astore E h 33 (.pointer (some a)) v = if 1 = (vcells v).length then awrite h a (vcells v) else none := by simp [astore, hE, sz33]
theorem ld37 (hE : E.P = Tryz.prog) {a : Addr} : aload E h 37 (.pointer (some a)) = (acells E h a 1).bind fun l => l[0]? := by simp only [aload, hE, ag37]
theorem ld42 (hE : E.P = Tryz.prog) {a : Addr} : aload E h 42 (.pointer (some a)) = (acells E h a 1).bind fun l => l[0]? := by simp only [aload, hE, ag42]
theorem ld50 (hE : E.P = Tryz.prog) {a : Addr} : aload E h 50 (.pointer (some a)) = (acells E h a 1).bind fun l => l[0]? := by simp only [aload, hE, ag50]
theorem st50 (hE : E.P = Tryz.prog) {a : Addr} {v : Value} : astore E h 50 (.pointer (some a)) v = if 1 = (vcells v).length then awrite h a (vcells v) else none := by simp [astore, hE, sz50]
theorem ia50 {a : Addr} {len cap : Nat} {k : IntKind} {n : Int} (ha : a.spot = none) (h0 : 0 ≤ n) (h1 : n < len) : aindexAddr Tryz.prog 50 (.slice (some a) len cap) (.int k n) = some (.pointer (some ⟨a.block, a.off + n.toNat * 1, none⟩)) := by simp [aindexAddr, Tryz.underlying50, sz33, ha, addo, h0, h1]
theorem le50 {a : Option Addr} {len cap : Nat} : alen Tryz.prog 50 (.slice a len cap) = some (.int .i64 len) := by simp [alen, Tryz.underlying50]
theorem in33 : (Tryz.prog.info? 33).map (fun i => (i.size, i.bytes)) = some (1, 8) := by kernel_rfl
theorem mk50 {k k' : IntKind} {l c : Int} (h0 : 0 ≤ l) (h1 : l ≤ c) (h2 : 8 * c ≤ 281474976710656) (h3 : c ≤ 9223372036854775807) : amk Tryz.prog 50 (.int k l) (.int k' c) = some (fun b => .slice (some ⟨b, 0, none⟩) l.toNat c.toNat, .cells (arep c.toNat [.int .u64 0]) 33 true) := makeSlice_at (E := { P := Tryz.prog, base := 0, ro := fun _ => none }) ⟨Tryz.underlying50, in33, ⟨_, zr33, rfl⟩, by decide⟩ ⟨_, zr33, rfl⟩ h0 h1 h2 h3
theorem bs50 {v : Value} (hl : (vcells v).length = 1) : abs1 Tryz.prog 50 1 [(0, v)] = some (fun b => .slice (some ⟨b, 0, none⟩) 1 1, .cells (vcells v) 33 true) := buildSlice_one (E := { P := Tryz.prog, base := 0, ro := fun _ => none }) ⟨Tryz.underlying50, in33, ⟨_, zr33, rfl⟩, by decide⟩ hl (by decide)
theorem el50 (hE : E.P = Tryz.prog) : Elem E 50 33 1 8 := ⟨by rw [hE]; exact Tryz.underlying50, by rw [hE]; exact in33, ⟨_, by rw [hE]; exact zr33, rfl⟩, by decide⟩
theorem ia66 {a : Addr} {len cap : Nat} {k : IntKind} {n : Int} (ha : a.spot = none) (h0 : 0 ≤ n) (h1 : n < len) : aindexAddr Tryz.prog 66 (.slice (some a) len cap) (.int k n) = some (.pointer (some ⟨a.block, a.off + n.toNat * 1, none⟩)) := by simp [aindexAddr, Tryz.underlying66, sz5, ha, addo, h0, h1]
theorem le66 {a : Option Addr} {len cap : Nat} : alen Tryz.prog 66 (.slice a len cap) = some (.int .i64 len) := by simp [alen, Tryz.underlying66]
theorem in5 : (Tryz.prog.info? 5).map (fun i => (i.size, i.bytes)) = some (1, 1) := by kernel_rfl
theorem mk66 {k k' : IntKind} {l c : Int} (h0 : 0 ≤ l) (h1 : l ≤ c) (h2 : 1 * c ≤ 281474976710656) (h3 : c ≤ 9223372036854775807) : amk Tryz.prog 66 (.int k l) (.int k' c) = some (fun b => .slice (some ⟨b, 0, none⟩) l.toNat c.toNat, .cells (arep c.toNat [.int .u8 0]) 5 true) := makeSlice_at (E := { P := Tryz.prog, base := 0, ro := fun _ => none }) ⟨Tryz.underlying66, in5, ⟨_, zr5, rfl⟩, by decide⟩ ⟨_, zr5, rfl⟩ h0 h1 h2 h3
theorem bs66 {v : Value} (hl : (vcells v).length = 1) : abs1 Tryz.prog 66 1 [(0, v)] = some (fun b => .slice (some ⟨b, 0, none⟩) 1 1, .cells (vcells v) 5 true) := buildSlice_one (E := { P := Tryz.prog, base := 0, ro := fun _ => none }) ⟨Tryz.underlying66, in5, ⟨_, zr5, rfl⟩, by decide⟩ hl (by decide)
theorem el66 (hE : E.P = Tryz.prog) : Elem E 66 5 1 1 := ⟨by rw [hE]; exact Tryz.underlying66, by rw [hE]; exact in5, ⟨_, by rw [hE]; exact zr5, rfl⟩, by decide⟩
theorem ld79 (hE : E.P = Tryz.prog) {a : Addr} : aload E h 79 (.pointer (some a)) = (acells E h a 1).map fun l => .agg l.toArray := by simp only [aload, hE, ag79, sz79]
theorem fa79_0 {a : Addr} (ha : a.spot = none) : afieldAddr Tryz.prog 79 (.pointer (some a)) 0 = some (.pointer (some ⟨a.block, a.off + 0, none⟩)) := by simp [afieldAddr, Tryz.underlying79, sz28, ha, addo]
theorem bd79 {ps : List (Nat × Value)} : abuild Tryz.prog 79 ps = (afill (fun i => ([(0, 1)] : List (Nat × Nat))[i]?) [.pointer none] ps).map fun l => .agg l.toArray := by simp [abuild, zr79, Tryz.underlying79, aplaces, sz28, vcells]
theorem ld84 (hE : E.P = Tryz.prog) {a : Addr} : aload E h 84 (.pointer (some a)) = (acells E h a 1).bind fun l => l[0]? := by simp only [aload, hE, ag84]
theorem st84 (hE : E.P = Tryz.prog) {a : Addr} {v : Value} : astore E h 84 (.pointer (some a)) v = if 1 = (vcells v).length then awrite h a (vcells v) else none := by simp [astore, hE, sz84]
theorem fa86_0 {a : Addr} (ha : a.spot = none) : afieldAddr Tryz.prog 86 (.pointer (some a)) 0 = some (.pointer (some ⟨a.block, a.off + 0, none⟩)) := by simp [afieldAddr, Tryz.underlying86, sz37, ha, addo]
theorem fa86_1 {a : Addr} (ha : a.spot = none) : afieldAddr Tryz.prog 86 (.pointer (some a)) 1 = some (.pointer (some ⟨a.block, a.off + 1, none⟩)) := by simp [afieldAddr, Tryz.underlying86, sz42, ha, addo]
theorem fa86_2 {a : Addr} (ha : a.spot = none) : afieldAddr Tryz.prog 86 (.pointer (some a)) 2 = some (.pointer (some ⟨a.block, a.off + 2, none⟩)) := by simp [afieldAddr, Tryz.underlying86, sz82, ha, addo]
theorem fa86_3 {a : Addr} (ha : a.spot = none) : afieldAddr Tryz.prog 86 (.pointer (some a)) 3 = some (.pointer (some ⟨a.block, a.off + 18, none⟩)) := by simp [afieldAddr, Tryz.underlying86, sz84, ha, addo]
theorem bd86 {ps : List (Nat × Value)} : abuild Tryz.prog 86 ps = (afill (fun i => ([(0, 1), (1, 1), (2, 16), (18, 1)] : List (Nat × Nat))[i]?) [.pointer none, .pointer none, .int .u64 0, .int .u64 0, .int .u64 0, .int .u64 0, .int .u64 0, .int .u64 0, .int .u64 0, .int .u64 0, .int .u64 0, .int .u64 0, .int .u64 0, .int .u64 0, .int .u64 0, .int .u64 0, .int .u64 0, .int .u64 0, .nilIface] ps).map fun l => .agg l.toArray := by simp [abuild, zr86, Tryz.underlying86, aplaces, sz37, sz42, sz82, sz84, vcells]
theorem fa88_0 {a : Addr} (ha : a.spot = none) : afieldAddr Tryz.prog 88 (.pointer (some a)) 0 = some (.pointer (some ⟨a.block, a.off + 0, none⟩)) := by simp [afieldAddr, Tryz.underlying88, sz50, ha, addo]
theorem fa88_1 {a : Addr} (ha : a.spot = none) : afieldAddr Tryz.prog 88 (.pointer (some a)) 1 = some (.pointer (some ⟨a.block, a.off + 1, none⟩)) := by simp [afieldAddr, Tryz.underlying88, sz50, ha, addo]
theorem fa88_2 {a : Addr} (ha : a.spot = none) : afieldAddr Tryz.prog 88 (.pointer (some a)) 2 = some (.pointer (some ⟨a.block, a.off + 2, none⟩)) := by simp [afieldAddr, Tryz.underlying88, sz3, ha, addo]
theorem fa88_3 {a : Addr} (ha : a.spot = none) : afieldAddr Tryz.prog 88 (.pointer (some a)) 3 = some (.pointer (some ⟨a.block, a.off + 3, none⟩)) := by simp [afieldAddr, Tryz.underlying88, sz3, ha, addo]
theorem fa88_4 {a : Addr} (ha : a.spot = none) : afieldAddr Tryz.prog 88 (.pointer (some a)) 4 = some (.pointer (some ⟨a.block, a.off + 4, none⟩)) := by simp [afieldAddr, Tryz.underlying88, sz3, ha, addo]
theorem fa88_5 {a : Addr} (ha : a.spot = none) : afieldAddr Tryz.prog 88 (.pointer (some a)) 5 = some (.pointer (some ⟨a.block, a.off + 5, none⟩)) := by simp [afieldAddr, Tryz.underlying88, sz4, ha, addo]
theorem bd88 {ps : List (Nat × Value)} : abuild Tryz.prog 88 ps = (afill (fun i => ([(0, 1), (1, 1), (2, 1), (3, 1), (4, 1), (5, 1)] : List (Nat × Nat))[i]?) [.slice none 0 0, .slice none 0 0, .int .i64 0, .int .i64 0, .int .i64 0, .bool false] ps).map fun l => .agg l.toArray := by simp [abuild, zr88, Tryz.underlying88, aplaces, sz3, sz4, sz50, vcells]
theorem ld91 (hE : E.P = Tryz.prog) {a : Addr} : aload E h 91 (.pointer (some a)) = (acells E h a 6).map fun l => .agg l.toArray := by simp only [aload, hE, ag91, sz91]
theorem st91 (hE : E.P = Tryz.prog) {a : Addr} {v : Value} : astore E h 91 (.pointer (some a)) v = if 6 = (vcells v).length then awrite h a (vcells v) else none := by simp [astore, hE, sz91]
theorem al91 : aalloc Tryz.prog ev (.alloc 91) = some (fun b => .pointer (some ⟨b, 0, none⟩), .cells [.string .empty, .int .i64 0, .int .i64 0, .string .empty, .slice none 0 0, .slice none 0 0] 91 true) := by simp [aalloc, zr91, vcells]
theorem fa91_0 {a : Addr} (ha : a.spot = none) : afieldAddr Tryz.prog 91 (.pointer (some a)) 0 = some (.pointer (some ⟨a.block, a.off + 0, none⟩)) := by simp [afieldAddr, Tryz.underlying91, sz9, ha, addo]
theorem fa91_1 {a : Addr} (ha : a.spot = none) : afieldAddr Tryz.prog 91 (.pointer (some a)) 1 = some (.pointer (some ⟨a.block, a.off + 1, none⟩)) := by simp [afieldAddr, Tryz.underlying91, sz25, ha, addo]
theorem bd91 {ps : List (Nat × Value)} : abuild Tryz.prog 91 ps = (afill (fun i => ([(0, 1), (1, 5)] : List (Nat × Nat))[i]?) [.string .empty, .int .i64 0, .int .i64 0, .string .empty, .slice none 0 0, .slice none 0 0] ps).map fun l => .agg l.toArray := by simp [abuild, zr91, Tryz.underlying91, aplaces, sz25, sz9, vcells]
theorem ld92 (hE : E.P = Tryz.prog) {a : Addr} : aload E h 92 (.pointer (some a)) = (acells E h a 1).bind fun l => l[0]? := by simp only [aload, hE, ag92]
theorem ia92 {a : Addr} {len cap : Nat} {k : IntKind} {n : Int} (ha : a.spot = none) (h0 : 0 ≤ n) (h1 : n < len) : aindexAddr Tryz.prog 92 (.slice (some a) len cap) (.int k n) = some (.pointer (some ⟨a.block, a.off + n.toNat * 4, none⟩)) := by simp [aindexAddr, Tryz.underlying92, sz159, ha, addo, h0, h1]
theorem le92 {a : Option Addr} {len cap : Nat} : alen Tryz.prog 92 (.slice a len cap) = some (.int .i64 len) := by simp [alen, Tryz.underlying92]
theorem in159 : (Tryz.prog.info? 159).map (fun i => (i.size, i.bytes)) = some (4, 24) := by kernel_rfl
theorem mk92 {k k' : IntKind} {l c : Int} (h0 : 0 ≤ l) (h1 : l ≤ c) (h2 : 24 * c ≤ 281474976710656) (h3 : c ≤ 9223372036854775807) : amk Tryz.prog 92 (.int k l) (.int k' c) = some (fun b => .slice (some ⟨b, 0, none⟩) l.toNat c.toNat, .cells (arep c.toNat [.int .u32 0, .bool false, .int .i64 0, .int .i64 0]) 159 true) := makeSlice_at (E := { P := Tryz.prog, base := 0, ro := fun _ => none }) ⟨Tryz.underlying92, in159, ⟨_, zr159, rfl⟩, by decide⟩ ⟨_, zr159, rfl⟩ h0 h1 h2 h3
theorem fa94_0 {a : Addr} (ha : a.spot = none) : afieldAddr Tryz.prog 94 (.pointer (some a)) 0 = some (.pointer (some ⟨a.block, a.off + 0, none⟩)) := by simp [afieldAddr, Tryz.underlying94, sz92, ha, addo]
theorem fa94_1 {a : Addr} (ha : a.spot = none) : afieldAddr Tryz.prog 94 (.pointer (some a)) 1 = some (.pointer (some ⟨a.block, a.off + 1, none⟩)) := by simp [afieldAddr, Tryz.underlying94, sz3, ha, addo]
theorem fa94_2 {a : Addr} (ha : a.spot = none) : afieldAddr Tryz.prog 94 (.pointer (some a)) 2 = some (.pointer (some ⟨a.block, a.off + 2, none⟩)) := by simp [afieldAddr, Tryz.underlying94, sz3, ha, addo]
theorem fa94_3 {a : Addr} (ha : a.spot = none) : afieldAddr Tryz.prog 94 (.pointer (some a)) 3 = some (.pointer (some ⟨a.block, a.off + 3, none⟩)) := by simp [afieldAddr, Tryz.underlying94, sz3, ha, addo]
theorem bd94 {ps : List (Nat × Value)} : abuild Tryz.prog 94 ps = (afill (fun i => ([(0, 1), (1, 1), (2, 1), (3, 1)] : List (Nat × Nat))[i]?) [.slice none 0 0, .int .i64 0, .int .i64 0, .int .i64 0] ps).map fun l => .agg l.toArray := by simp [abuild, zr94, Tryz.underlying94, aplaces, sz3, sz92, vcells]
theorem ld103 (hE : E.P = Tryz.prog) {a : Addr} : aload E h 103 (.pointer (some a)) = (acells E h a 5).map fun l => .agg l.toArray := by simp only [aload, hE, ag103, sz103]
theorem st103 (hE : E.P = Tryz.prog) {a : Addr} {v : Value} : astore E h 103 (.pointer (some a)) v = if 5 = (vcells v).length then awrite h a (vcells v) else none := by simp [astore, hE, sz103]
theorem al103 : aalloc Tryz.prog ev (.alloc 103) = some (fun b => .pointer (some ⟨b, 0, none⟩), .cells [.int .i64 0, .int .i64 0, .int .i64 0, .bool false, .int .i64 0] 103 true) := by simp [aalloc, zr103, vcells]
theorem fa103_0 {a : Addr} (ha : a.spot = none) : afieldAddr Tryz.prog 103 (.pointer (some a)) 0 = some (.pointer (some ⟨a.block, a.off + 0, none⟩)) := by simp [afieldAddr, Tryz.underlying103, sz3, ha, addo]
theorem fa103_1 {a : Addr} (ha : a.spot = none) : afieldAddr Tryz.prog 103 (.pointer (some a)) 1 = some (.pointer (some ⟨a.block, a.off + 1, none⟩)) := by simp [afieldAddr, Tryz.underlying103, sz3, ha, addo]
theorem fa103_2 {a : Addr} (ha : a.spot = none) : afieldAddr Tryz.prog 103 (.pointer (some a)) 2 = some (.pointer (some ⟨a.block, a.off + 2, none⟩)) := by simp [afieldAddr, Tryz.underlying103, sz3, ha, addo]
theorem fa103_3 {a : Addr} (ha : a.spot = none) : afieldAddr Tryz.prog 103 (.pointer (some a)) 3 = some (.pointer (some ⟨a.block, a.off + 3, none⟩)) := by simp [afieldAddr, Tryz.underlying103, sz4, ha, addo]
theorem fa103_4 {a : Addr} (ha : a.spot = none) : afieldAddr Tryz.prog 103 (.pointer (some a)) 4 = some (.pointer (some ⟨a.block, a.off + 4, none⟩)) := by simp [afieldAddr, Tryz.underlying103, sz3, ha, addo]
theorem bd103 {ps : List (Nat × Value)} : abuild Tryz.prog 103 ps = (afill (fun i => ([(0, 1), (1, 1), (2, 1), (3, 1), (4, 1)] : List (Nat × Nat))[i]?) [.int .i64 0, .int .i64 0, .int .i64 0, .bool false, .int .i64 0] ps).map fun l => .agg l.toArray := by simp [abuild, zr103, Tryz.underlying103, aplaces, sz3, sz4, vcells]
theorem ld116 (hE : E.P = Tryz.prog) {a : Addr} : aload E h 116 (.pointer (some a)) = (acells E h a 1).bind fun l => l[0]? := by simp only [aload, hE, ag116]
theorem fa119_0 {a : Addr} (ha : a.spot = none) : afieldAddr Tryz.prog 119 (.pointer (some a)) 0 = some (.pointer (some ⟨a.block, a.off + 0, none⟩)) := by simp [afieldAddr, Tryz.underlying119, sz28, ha, addo]
theorem fa119_1 {a : Addr} (ha : a.spot = none) : afieldAddr Tryz.prog 119 (.pointer (some a)) 1 = some (.pointer (some ⟨a.block, a.off + 1, none⟩)) := by simp [afieldAddr, Tryz.underlying119, sz116, ha, addo]
theorem fa119_2 {a : Addr} (ha : a.spot = none) : afieldAddr Tryz.prog 119 (.pointer (some a)) 2 = some (.pointer (some ⟨a.block, a.off + 2, none⟩)) := by simp [afieldAddr, Tryz.underlying119, sz3, ha, addo]
theorem fa119_3 {a : Addr} (ha : a.spot = none) : afieldAddr Tryz.prog 119 (.pointer (some a)) 3 = some (.pointer (some ⟨a.block, a.off + 3, none⟩)) := by simp [afieldAddr, Tryz.underlying119, sz3, ha, addo]
theorem fa119_4 {a : Addr} (ha : a.spot = none) : afieldAddr Tryz.prog 119 (.pointer (some a)) 4 = some (.pointer (some ⟨a.block, a.off + 4, none⟩)) := by simp [afieldAddr, Tryz.underlying119, sz3, ha, addo]
theorem bd119 {ps : List (Nat × Value)} : abuild Tryz.prog 119 ps = (afill (fun i => ([(0, 1), (1, 1), (2, 1), (3, 1), (4, 1)] : List (Nat × Nat))[i]?) [.pointer none, .pointer none, .int .i64 0, .int .i64 0, .int .i64 0] ps).map fun l => .agg l.toArray := by simp [abuild, zr119, Tryz.underlying119, aplaces, sz116, sz28, sz3, vcells]
theorem fa125_0 {a : Addr} (ha : a.spot = none) : afieldAddr Tryz.prog 125 (.pointer (some a)) 0 = some (.pointer (some ⟨a.block, a.off + 0, none⟩)) := by simp [afieldAddr, Tryz.underlying125, sz28, ha, addo]
theorem fa125_1 {a : Addr} (ha : a.spot = none) : afieldAddr Tryz.prog 125 (.pointer (some a)) 1 = some (.pointer (some ⟨a.block, a.off + 1, none⟩)) := by simp [afieldAddr, Tryz.underlying125, sz3, ha, addo]
theorem bd125 {ps : List (Nat × Value)} : abuild Tryz.prog 125 ps = (afill (fun i => ([(0, 1), (1, 1)] : List (Nat × Nat))[i]?) [.pointer none, .int .i64 0] ps).map fun l => .agg l.toArray := by simp [abuild, zr125, Tryz.underlying125, aplaces, sz28, sz3, vcells]
theorem ld127 (hE : E.P = Tryz.prog) {a : Addr} : aload E h 127 (.pointer (some a)) = (acells E h a 3).map fun l => .agg l.toArray := by simp only [aload, hE, ag127, sz127]
theorem st127 (hE : E.P = Tryz.prog) {a : Addr} {v : Value} : astore E h 127 (.pointer (some a)) v = if 3 = (vcells v).length then awrite h a (vcells v) else none := by simp [astore, hE, sz127]
theorem al127 : aalloc Tryz.prog ev (.alloc 127) = some (fun b => .pointer (some ⟨b, 0, none⟩), .cells [.int .i64 0, .slice none 0 0, .slice none 0 0] 127 true) := by simp [aalloc, zr127, vcells]
theorem fa127_0 {a : Addr} (ha : a.spot = none) : afieldAddr Tryz.prog 127 (.pointer (some a)) 0 = some (.pointer (some ⟨a.block, a.off + 0, none⟩)) := by simp [afieldAddr, Tryz.underlying127, sz3, ha, addo]
theorem fa127_1 {a : Addr} (ha : a.spot = none) : afieldAddr Tryz.prog 127 (.pointer (some a)) 1 = some (.pointer (some ⟨a.block, a.off + 1, none⟩)) := by simp [afieldAddr, Tryz.underlying127, sz50, ha, addo]
theorem fa127_2 {a : Addr} (ha : a.spot = none) : afieldAddr Tryz.prog 127 (.pointer (some a)) 2 = some (.pointer (some ⟨a.block, a.off + 2, none⟩)) := by simp [afieldAddr, Tryz.underlying127, sz50, ha, addo]
theorem bd127 {ps : List (Nat × Value)} : abuild Tryz.prog 127 ps = (afill (fun i => ([(0, 1), (1, 1), (2, 1)] : List (Nat × Nat))[i]?) [.int .i64 0, .slice none 0 0, .slice none 0 0] ps).map fun l => .agg l.toArray := by simp [abuild, zr127, Tryz.underlying127, aplaces, sz3, sz50, vcells]
theorem ld157 (hE : E.P = Tryz.prog) {a : Addr} : aload E h 157 (.pointer (some a)) = (acells E h a 1).bind fun l => l[0]? := by simp only [aload, hE, ag157]
theorem st157 (hE : E.P = Tryz.prog) {a : Addr} {v : Value} : astore E h 157 (.pointer (some a)) v = if 1 = (vcells v).length then awrite h a (vcells v) else none := by simp [astore, hE, sz157]
theorem st159 (hE : E.P = Tryz.prog) {a : Addr} {v : Value} : astore E h 159 (.pointer (some a)) v = if 4 = (vcells v).length then awrite h a (vcells v) else none := by simp [astore, hE, sz159]
theorem fa159_0 {a : Addr} (ha : a.spot = none) : afieldAddr Tryz.prog 159 (.pointer (some a)) 0 = some (.pointer (some ⟨a.block, a.off + 0, none⟩)) := by simp [afieldAddr, Tryz.underlying159, sz157, ha, addo]
theorem fa159_1 {a : Addr} (ha : a.spot = none) : afieldAddr Tryz.prog 159 (.pointer (some a)) 1 = some (.pointer (some ⟨a.block, a.off + 1, none⟩)) := by simp [afieldAddr, Tryz.underlying159, sz4, ha, addo]
theorem fa159_2 {a : Addr} (ha : a.spot = none) : afieldAddr Tryz.prog 159 (.pointer (some a)) 2 = some (.pointer (some ⟨a.block, a.off + 2, none⟩)) := by simp [afieldAddr, Tryz.underlying159, sz3, ha, addo]
theorem fa159_3 {a : Addr} (ha : a.spot = none) : afieldAddr Tryz.prog 159 (.pointer (some a)) 3 = some (.pointer (some ⟨a.block, a.off + 3, none⟩)) := by simp [afieldAddr, Tryz.underlying159, sz3, ha, addo]
theorem bd159 {ps : List (Nat × Value)} : abuild Tryz.prog 159 ps = (afill (fun i => ([(0, 1), (1, 1), (2, 1), (3, 1)] : List (Nat × Nat))[i]?) [.int .u32 0, .bool false, .int .i64 0, .int .i64 0] ps).map fun l => .agg l.toArray := by simp [abuild, zr159, Tryz.underlying159, aplaces, sz157, sz3, sz4, vcells]
theorem fa166_0 {a : Addr} (ha : a.spot = none) : afieldAddr Tryz.prog 166 (.pointer (some a)) 0 = some (.pointer (some ⟨a.block, a.off + 0, none⟩)) := by simp [afieldAddr, Tryz.underlying166, sz28, ha, addo]
theorem fa166_1 {a : Addr} (ha : a.spot = none) : afieldAddr Tryz.prog 166 (.pointer (some a)) 1 = some (.pointer (some ⟨a.block, a.off + 1, none⟩)) := by simp [afieldAddr, Tryz.underlying166, sz50, ha, addo]
theorem fa166_2 {a : Addr} (ha : a.spot = none) : afieldAddr Tryz.prog 166 (.pointer (some a)) 2 = some (.pointer (some ⟨a.block, a.off + 2, none⟩)) := by simp [afieldAddr, Tryz.underlying166, sz4, ha, addo]
theorem bd166 {ps : List (Nat × Value)} : abuild Tryz.prog 166 ps = (afill (fun i => ([(0, 1), (1, 1), (2, 1)] : List (Nat × Nat))[i]?) [.pointer none, .slice none 0 0, .bool false] ps).map fun l => .agg l.toArray := by simp [abuild, zr166, Tryz.underlying166, aplaces, sz28, sz4, sz50, vcells]
theorem in21 : (Tryz.prog.info? 21).map (fun i => (i.size, i.bytes)) = some (1, 4) := by kernel_rfl
theorem bs184 {v : Value} (hl : (vcells v).length = 1) : abs1 Tryz.prog 184 1 [(0, v)] = some (fun b => .slice (some ⟨b, 0, none⟩) 1 1, .cells (vcells v) 21 true) := buildSlice_one (E := { P := Tryz.prog, base := 0, ro := fun _ => none }) ⟨Tryz.underlying184, in21, ⟨_, zr21, rfl⟩, by decide⟩ hl (by decide)
theorem el184 (hE : E.P = Tryz.prog) : Elem E 184 21 1 4 := ⟨by rw [hE]; exact Tryz.underlying184, by rw [hE]; exact in21, ⟨_, by rw [hE]; exact zr21, rfl⟩, by decide⟩
theorem ia187 {a : Addr} {len cap : Nat} {k : IntKind} {n : Int} (ha : a.spot = none) (h0 : 0 ≤ n) (h1 : n < len) : aindexAddr Tryz.prog 187 (.slice (some a) len cap) (.int k n) = some (.pointer (some ⟨a.block, a.off + n.toNat * 8, none⟩)) := by simp [aindexAddr, Tryz.underlying187, sz190, ha, addo, h0, h1]
theorem le187 {a : Option Addr} {len cap : Nat} : alen Tryz.prog 187 (.slice a len cap) = some (.int .i64 len) := by simp [alen, Tryz.underlying187]
theorem in190 : (Tryz.prog.info? 190).map (fun i => (i.size, i.bytes)) = some (8, 128) := by kernel_rfl
theorem bs187 {v : Value} (hl : (vcells v).length = 8) : abs1 Tryz.prog 187 1 [(0, v)] = some (fun b => .slice (some ⟨b, 0, none⟩) 1 1, .cells (vcells v) 190 true) := buildSlice_one (E := { P := Tryz.prog, base := 0, ro := fun _ => none }) ⟨Tryz.underlying187, in190, ⟨_, zr190, rfl⟩, by decide⟩ hl (by decide)
theorem el187 (hE : E.P = Tryz.prog) : Elem E 187 190 8 128 := ⟨by rw [hE]; exact Tryz.underlying187, by rw [hE]; exact in190, ⟨_, by rw [hE]; exact zr190, rfl⟩, by decide⟩
theorem fa190_0 {a : Addr} (ha : a.spot = none) : afieldAddr Tryz.prog 190 (.pointer (some a)) 0 = some (.pointer (some ⟨a.block, a.off + 0, none⟩)) := by simp [afieldAddr, Tryz.underlying190, sz3, ha, addo]
theorem fa190_1 {a : Addr} (ha : a.spot = none) : afieldAddr Tryz.prog 190 (.pointer (some a)) 1 = some (.pointer (some ⟨a.block, a.off + 1, none⟩)) := by simp [afieldAddr, Tryz.underlying190, sz50, ha, addo]
theorem fa190_2 {a : Addr} (ha : a.spot = none) : afieldAddr Tryz.prog 190 (.pointer (some a)) 2 = some (.pointer (some ⟨a.block, a.off + 2, none⟩)) := by simp [afieldAddr, Tryz.underlying190, sz9, ha, addo]
theorem fa190_3 {a : Addr} (ha : a.spot = none) : afieldAddr Tryz.prog 190 (.pointer (some a)) 3 = some (.pointer (some ⟨a.block, a.off + 3, none⟩)) := by simp [afieldAddr, Tryz.underlying190, sz25, ha, addo]
theorem bd190 {ps : List (Nat × Value)} : abuild Tryz.prog 190 ps = (afill (fun i => ([(0, 1), (1, 1), (2, 1), (3, 5)] : List (Nat × Nat))[i]?) [.int .i64 0, .slice none 0 0, .string .empty, .int .i64 0, .int .i64 0, .string .empty, .slice none 0 0, .slice none 0 0] ps).map fun l => .agg l.toArray := by simp [abuild, zr190, Tryz.underlying190, aplaces, sz25, sz3, sz50, sz9, vcells]
theorem ia199 {a : Addr} {len cap : Nat} {k : IntKind} {n : Int} (ha : a.spot = none) (h0 : 0 ≤ n) (h1 : n < len) : aindexAddr Tryz.prog 199 (.slice (some a) len cap) (.int k n) = some (.pointer (some ⟨a.block, a.off + n.toNat * 1, none⟩)) := by simp [aindexAddr, Tryz.underlying199, sz30, ha, addo, h0, h1]
theorem le199 {a : Option Addr} {len cap : Nat} : alen Tryz.prog 199 (.slice a len cap) = some (.int .i64 len) := by simp [alen, Tryz.underlying199]
theorem in30 : (Tryz.prog.info? 30).map (fun i => (i.size, i.bytes)) = some (1, 8) := by kernel_rfl
theorem el199 (hE : E.P = Tryz.prog) : Elem E 199 30 1 8 := ⟨by rw [hE]; exact Tryz.underlying199, by rw [hE]; exact in30, ⟨_, by rw [hE]; exact zr30, rfl⟩, by decide⟩
theorem ia215 {a : Addr} {len cap : Nat} {k : IntKind} {n : Int} (ha : a.spot = none) (h0 : 0 ≤ n) (h1 : n < len) : aindexAddr Tryz.prog 215 (.slice (some a) len cap) (.int k n) = some (.pointer (some ⟨a.block, a.off + n.toNat * 1, none⟩)) := by simp [aindexAddr, Tryz.underlying215, sz3, ha, addo, h0, h1]
theorem le215 {a : Option Addr} {len cap : Nat} : alen Tryz.prog 215 (.slice a len cap) = some (.int .i64 len) := by simp [alen, Tryz.underlying215]
theorem in3 : (Tryz.prog.info? 3).map (fun i => (i.size, i.bytes)) = some (1, 8) := by kernel_rfl
theorem el215 (hE : E.P = Tryz.prog) : Elem E 215 3 1 8 := ⟨by rw [hE]; exact Tryz.underlying215, by rw [hE]; exact in3, ⟨_, by rw [hE]; exact zr3, rfl⟩, by decide⟩
variable {O l : List Oper} {Q R : Cont} {tm : Tr Value} {d : Option Nat} {x : Operand}
theorem wlen9 (hE : E.P = Tryz.prog) : wop1 E (.call ⟨.builtin .len, #[x], #[9]⟩) d R tm h = kpure (alen Tryz.prog 9 (opd tm x)) d R tm h := by rw [wop_len (by rw [hE]; exact Tryz.underlying9) rfl, hE]
theorem le9 {s : ByteArray} : alen Tryz.prog 9 (.string s) = some (.int .i64 s.size) := by simp [alen, Tryz.underlying9]
theorem wlen22 (hE : E.P = Tryz.prog) : wop1 E (.call ⟨.builtin .len, #[x], #[22]⟩) d R tm h = kpure (alen Tryz.prog 22 (opd tm x)) d R tm h := by rw [wop_len (by rw [hE]; exact Tryz.underlying22) rfl, hE]
theorem wlen23 (hE : E.P = Tryz.prog) : wop1 E (.call ⟨.builtin .len, #[x], #[23]⟩) d R tm h = kpure (alen Tryz.prog 23 (opd tm x)) d R tm h := by rw [wop_len (by rw [hE]; exact Tryz.underlying23) rfl, hE]
theorem wlen50 (hE : E.P = Tryz.prog) : wop1 E (.call ⟨.builtin .len, #[x], #[50]⟩) d R tm h = kpure (alen Tryz.prog 50 (opd tm x)) d R tm h := by rw [wop_len (by rw [hE]; exact Tryz.underlying50) rfl, hE]
theorem wlen66 (hE : E.P = Tryz.prog) : wop1 E (.call ⟨.builtin .len, #[x], #[66]⟩) d R tm h = kpure (alen Tryz.prog 66 (opd tm x)) d R tm h := by rw [wop_len (by rw [hE]; exact Tryz.underlying66) rfl, hE]
theorem wlen92 (hE : E.P = Tryz.prog) : wop1 E (.call ⟨.builtin .len, #[x], #[92]⟩) d R tm h = kpure (alen Tryz.prog 92 (opd tm x)) d R tm h := by rw [wop_len (by rw [hE]; exact Tryz.underlying92) rfl, hE]
theorem wlen187 (hE : E.P = Tryz.prog) : wop1 E (.call ⟨.builtin .len, #[x], #[187]⟩) d R tm h = kpure (alen Tryz.prog 187 (opd tm x)) d R tm h := by rw [wop_len (by rw [hE]; exact Tryz.underlying187) rfl, hE]
theorem wlen199 (hE : E.P = Tryz.prog) : wop1 E (.call ⟨.builtin .len, #[x], #[199]⟩) d R tm h = kpure (alen Tryz.prog 199 (opd tm x)) d R tm h := by rw [wop_len (by rw [hE]; exact Tryz.underlying199) rfl, hE]
theorem wlen215 (hE : E.P = Tryz.prog) : wop1 E (.call ⟨.builtin .len, #[x], #[215]⟩) d R tm h = kpure (alen Tryz.prog 215 (opd tm x)) d R tm h := by rw [wop_len (by rw [hE]; exact Tryz.underlying215) rfl, hE]
theorem wcv2_5 (hE : E.P = Tryz.prog) : wop1 E (.convert 2 5 x) d R tm h = kpure (aconv Tryz.prog 2 5 (opd tm x)) d R tm h := by rw [wop_convert (by rw [hE]; exact Tryz.underlying2) rfl, hE]
theorem wcv2_33 (hE : E.P = Tryz.prog) : wop1 E (.convert 2 33 x) d R tm h = kpure (aconv Tryz.prog 2 33 (opd tm x)) d R tm h := by rw [wop_convert (by rw [hE]; exact Tryz.underlying2) rfl, hE]
theorem wcv3_5 (hE : E.P = Tryz.prog) : wop1 E (.convert 3 5 x) d R tm h = kpure (aconv Tryz.prog 3 5 (opd tm x)) d R tm h := by rw [wop_convert (by rw [hE]; exact Tryz.underlying3) rfl, hE]
theorem wcv3_21 (hE : E.P = Tryz.prog) : wop1 E (.convert 3 21 x) d R tm h = kpure (aconv Tryz.prog 3 21 (opd tm x)) d R tm h := by rw [wop_convert (by rw [hE]; exact Tryz.underlying3) rfl, hE]
theorem wcv3_33 (hE : E.P = Tryz.prog) : wop1 E (.convert 3 33 x) d R tm h = kpure (aconv Tryz.prog 3 33 (opd tm x)) d R tm h := by rw [wop_convert (by rw [hE]; exact Tryz.underlying3) rfl, hE]
theorem wcv5_3 (hE : E.P = Tryz.prog) : wop1 E (.convert 5 3 x) d R tm h = kpure (aconv Tryz.prog 5 3 (opd tm x)) d R tm h := by rw [wop_convert (by rw [hE]; exact Tryz.underlying5) rfl, hE]
theorem wcv5_33 (hE : E.P = Tryz.prog) : wop1 E (.convert 5 33 x) d R tm h = kpure (aconv Tryz.prog 5 33 (opd tm x)) d R tm h := by rw [wop_convert (by rw [hE]; exact Tryz.underlying5) rfl, hE]
theorem wcv33_2 (hE : E.P = Tryz.prog) : wop1 E (.convert 33 2 x) d R tm h = kpure (aconv Tryz.prog 33 2 (opd tm x)) d R tm h := by rw [wop_convert (by rw [hE]; exact Tryz.underlying33) rfl, hE]
theorem wcv33_3 (hE : E.P = Tryz.prog) : wop1 E (.convert 33 3 x) d R tm h = kpure (aconv Tryz.prog 33 3 (opd tm x)) d R tm h := by rw [wop_convert (by rw [hE]; exact Tryz.underlying33) rfl, hE]
theorem wcv33_5 (hE : E.P = Tryz.prog) : wop1 E (.convert 33 5 x) d R tm h = kpure (aconv Tryz.prog 33 5 (opd tm x)) d R tm h := by rw [wop_convert (by rw [hE]; exact Tryz.underlying33) rfl, hE]
theorem wcv66_9 (hE : E.P = Tryz.prog) : wop1 E (.convert 66 9 x) d R tm h = kpure (aread E h (opd tm) (.convert 66 9 x)) d R tm h := by rw [wop_convertB (by rw [hE]; exact Tryz.underlying66)]
theorem wcv157_33 (hE : E.P = Tryz.prog) : wop1 E (.convert 157 33 x) d R tm h = kpure (aconv Tryz.prog 157 33 (opd tm x)) d R tm h := by rw [wop_convert (by rw [hE]; exact Tryz.underlying157) rfl, hE]
attribute [push_cast] ld2 st2 ld3 st3 ld4 st4 ld5 ld9 st9 ld22 st22 le22 ld23 st23 le23 ld25 st25 al25 fa25_0 fa25_1 fa25_2 fa25_3 fa25_4 bd25 ld28 ld30 ld33 st33 ld37 ld42 ld50 st50 le50 le66 ld79 fa79_0 bd79 ld84 st84 fa86_0 fa86_1 fa86_2 fa86_3 bd86 fa88_0 fa88_1 fa88_2 fa88_3 fa88_4 fa88_5 bd88 ld91 st91 al91 fa91_0 fa91_1 bd91 ld92 le92 fa94_0 fa94_1 fa94_2 fa94_3 bd94 ld103 st103 al103 fa103_0 fa103_1 fa103_2 fa103_3 fa103_4 bd103 ld116 fa119_0 fa119_1 fa119_2 fa119_3 fa119_4 bd119 fa125_0 fa125_1 bd125 ld127 st127 al127 fa127_0 fa127_1 fa127_2 bd127 ld157 st157 st159 fa159_0 fa159_1 fa159_2 fa159_3 bd159 fa166_0 fa166_1 fa166_2 bd166 le187 fa190_0 fa190_1 fa190_2 fa190_3 bd190 le199 le215 wlen9 le9 wlen22 wlen23 wlen50 wlen66 wlen92 wlen187 wlen199 wlen215 wcv2_5 wcv2_33 wcv3_5 wcv3_21 wcv3_33 wcv5_3 wcv5_33 wcv33_2 wcv33_3 wcv33_5 wcv66_9 wcv157_33 Tryz.underlying2 Tryz.underlying3 Tryz.underlying5 Tryz.underlying9 Tryz.underlying21 Tryz.underlying33 Tryz.underlying50 Tryz.underlying66 Tryz.underlying82 Tryz.underlying130 Tryz.underlying157 Tryz.underlying173 Tryz.underlying187
end
end Go.Proofs.YthfopcdammlmfaaGreatDoor

