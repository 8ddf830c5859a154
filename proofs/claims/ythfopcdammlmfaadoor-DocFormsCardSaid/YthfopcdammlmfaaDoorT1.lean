/- The facts on the types of this program, one by one, each by the kernel. (Printed by a program of ours.) -/
/- Merged by a program of ours: TabD TabE. -/
import Derived.Test.YthfopcdammlmfaaDoorA8
import Derived.Test.YthfopcdammlmfaaDoorChecked
set_option maxRecDepth 10000
set_option linter.all false
set_option linter.unusedSimpArgs false
set_option linter.unusedVariables false
/- The facts on the types of this program, one by one, each by the kernel. (Printed by a program of ours.) -/
namespace Go.Proofs.YthfopcdammlmfaaDoor
open Go.Tm
/-- What is known of calls of the library. -/
def knownT : FuncId → List Value → Option Value := fun f args => if f = 95 then (match args with | [.string s] => if s.size ≤ 9223372036854775807 then some (.bool (Lib.validD s.data.toList)) else none | _ => none) else none
structure EOk (E : Env) : Prop where
  P : E.P = Tryd.prog
  known : E.known = knownT
section
variable {E : Env} {h : Heap} {b o : Nat} {ev : Operand → Value}
theorem sz2 : asz Tryd.prog 2 = some 1 := by kernel_rfl
theorem ag2 : aagg Tryd.prog 2 = some false := by kernel_rfl
theorem zr2 : azero Tryd.prog 2 = some (.int .i64 0) := by kernel_rfl
theorem sz3 : asz Tryd.prog 3 = some 1 := by kernel_rfl
theorem ag3 : aagg Tryd.prog 3 = some false := by kernel_rfl
theorem zr3 : azero Tryd.prog 3 = some (.int .i64 0) := by kernel_rfl
theorem sz4 : asz Tryd.prog 4 = some 1 := by kernel_rfl
theorem ag4 : aagg Tryd.prog 4 = some false := by kernel_rfl
theorem zr4 : azero Tryd.prog 4 = some (.bool false) := by kernel_rfl
theorem sz5 : asz Tryd.prog 5 = some 1 := by kernel_rfl
theorem ag5 : aagg Tryd.prog 5 = some false := by kernel_rfl
theorem zr5 : azero Tryd.prog 5 = some (.int .u8 0) := by kernel_rfl
theorem sz9 : asz Tryd.prog 9 = some 1 := by kernel_rfl
theorem ag9 : aagg Tryd.prog 9 = some false := by kernel_rfl
theorem zr9 : azero Tryd.prog 9 = some (.string .empty) := by kernel_rfl
theorem sz16 : asz Tryd.prog 16 = some 1 := by kernel_rfl
theorem ag16 : aagg Tryd.prog 16 = some false := by kernel_rfl
theorem zr16 : azero Tryd.prog 16 = some (.pointer none) := by kernel_rfl
theorem sz22 : asz Tryd.prog 22 = some 1 := by kernel_rfl
theorem ag22 : aagg Tryd.prog 22 = some false := by kernel_rfl
theorem zr22 : azero Tryd.prog 22 = some (.int .i64 0) := by kernel_rfl
theorem sz25 : asz Tryd.prog 25 = some 1 := by kernel_rfl
theorem ag25 : aagg Tryd.prog 25 = some false := by kernel_rfl
theorem zr25 : azero Tryd.prog 25 = some (.slice none 0 0) := by kernel_rfl
theorem sz26 : asz Tryd.prog 26 = some 1 := by kernel_rfl
theorem ag26 : aagg Tryd.prog 26 = some false := by kernel_rfl
theorem zr26 : azero Tryd.prog 26 = some (.slice none 0 0) := by kernel_rfl
theorem sz28 : asz Tryd.prog 28 = some 5 := by kernel_rfl
theorem ag28 : aagg Tryd.prog 28 = some true := by kernel_rfl
theorem zr28 : azero Tryd.prog 28 = some (.agg #[.int .i64 0, .int .i64 0, .string .empty, .slice none 0 0, .slice none 0 0]) := by kernel_rfl
theorem sz34 : asz Tryd.prog 34 = some 1 := by kernel_rfl
theorem ag34 : aagg Tryd.prog 34 = some false := by kernel_rfl
theorem zr34 : azero Tryd.prog 34 = some (.pointer none) := by kernel_rfl
theorem sz37 : asz Tryd.prog 37 = some 1 := by kernel_rfl
theorem ag37 : aagg Tryd.prog 37 = some false := by kernel_rfl
theorem zr37 : azero Tryd.prog 37 = some (.int .u64 0) := by kernel_rfl
theorem sz41 : asz Tryd.prog 41 = some 1 := by kernel_rfl
theorem ag41 : aagg Tryd.prog 41 = some false := by kernel_rfl
theorem zr41 : azero Tryd.prog 41 = some (.slice none 0 0) := by kernel_rfl
theorem sz42 : asz Tryd.prog 42 = some 1 := by kernel_rfl
theorem ag42 : aagg Tryd.prog 42 = some false := by kernel_rfl
theorem zr42 : azero Tryd.prog 42 = some (.pointer none) := by kernel_rfl
theorem sz45 : asz Tryd.prog 45 = some 1 := by kernel_rfl
theorem ag45 : aagg Tryd.prog 45 = some false := by kernel_rfl
theorem zr45 : azero Tryd.prog 45 = some (.pointer none) := by kernel_rfl
theorem sz58 : asz Tryd.prog 58 = some 1 := by kernel_rfl
theorem ag58 : aagg Tryd.prog 58 = some false := by kernel_rfl
theorem zr58 : azero Tryd.prog 58 = some (.nilFunc) := by kernel_rfl
theorem sz64 : asz Tryd.prog 64 = some 6 := by kernel_rfl
theorem ag64 : aagg Tryd.prog 64 = some true := by kernel_rfl
theorem zr64 : azero Tryd.prog 64 = some (.agg #[.string .empty, .int .i64 0, .int .i64 0, .string .empty, .slice none 0 0, .slice none 0 0]) := by kernel_rfl
theorem sz69 : asz Tryd.prog 69 = some 1 := by kernel_rfl
theorem ag69 : aagg Tryd.prog 69 = some true := by kernel_rfl
theorem zr69 : azero Tryd.prog 69 = some (.agg #[.pointer none]) := by kernel_rfl
theorem sz73 : asz Tryd.prog 73 = some 16 := by kernel_rfl
theorem ag73 : aagg Tryd.prog 73 = some true := by kernel_rfl
theorem zr73 : azero Tryd.prog 73 = some (.agg #[.int .u64 0, .int .u64 0, .int .u64 0, .int .u64 0, .int .u64 0, .int .u64 0, .int .u64 0, .int .u64 0, .int .u64 0, .int .u64 0, .int .u64 0, .int .u64 0, .int .u64 0, .int .u64 0, .int .u64 0, .int .u64 0]) := by kernel_rfl
theorem sz75 : asz Tryd.prog 75 = some 1 := by kernel_rfl
theorem ag75 : aagg Tryd.prog 75 = some false := by kernel_rfl
theorem zr75 : azero Tryd.prog 75 = some (.nilIface) := by kernel_rfl
theorem sz77 : asz Tryd.prog 77 = some 19 := by kernel_rfl
theorem ag77 : aagg Tryd.prog 77 = some true := by kernel_rfl
theorem zr77 : azero Tryd.prog 77 = some (.agg #[.pointer none, .pointer none, .int .u64 0, .int .u64 0, .int .u64 0, .int .u64 0, .int .u64 0, .int .u64 0, .int .u64 0, .int .u64 0, .int .u64 0, .int .u64 0, .int .u64 0, .int .u64 0, .int .u64 0, .int .u64 0, .int .u64 0, .int .u64 0, .nilIface]) := by kernel_rfl
theorem sz79 : asz Tryd.prog 79 = some 6 := by kernel_rfl
theorem ag79 : aagg Tryd.prog 79 = some true := by kernel_rfl
theorem zr79 : azero Tryd.prog 79 = some (.agg #[.slice none 0 0, .slice none 0 0, .int .i64 0, .int .i64 0, .int .i64 0, .bool false]) := by kernel_rfl
theorem sz80 : asz Tryd.prog 80 = some 1 := by kernel_rfl
theorem ag80 : aagg Tryd.prog 80 = some false := by kernel_rfl
theorem zr80 : azero Tryd.prog 80 = some (.slice none 0 0) := by kernel_rfl
theorem sz82 : asz Tryd.prog 82 = some 4 := by kernel_rfl
theorem ag82 : aagg Tryd.prog 82 = some true := by kernel_rfl
theorem zr82 : azero Tryd.prog 82 = some (.agg #[.slice none 0 0, .int .i64 0, .int .i64 0, .int .i64 0]) := by kernel_rfl
theorem sz91 : asz Tryd.prog 91 = some 5 := by kernel_rfl
theorem ag91 : aagg Tryd.prog 91 = some true := by kernel_rfl
theorem zr91 : azero Tryd.prog 91 = some (.agg #[.int .i64 0, .int .i64 0, .int .i64 0, .bool false, .int .i64 0]) := by kernel_rfl
theorem sz97 : asz Tryd.prog 97 = some 1 := by kernel_rfl
theorem ag97 : aagg Tryd.prog 97 = some false := by kernel_rfl
theorem zr97 : azero Tryd.prog 97 = some (.pointer none) := by kernel_rfl
theorem sz99 : asz Tryd.prog 99 = some 2 := by kernel_rfl
theorem ag99 : aagg Tryd.prog 99 = some true := by kernel_rfl
theorem zr99 : azero Tryd.prog 99 = some (.agg #[.pointer none, .int .i64 0]) := by kernel_rfl
theorem sz102 : asz Tryd.prog 102 = some 1 := by kernel_rfl
theorem ag102 : aagg Tryd.prog 102 = some false := by kernel_rfl
theorem zr102 : azero Tryd.prog 102 = some (.slice none 0 0) := by kernel_rfl
theorem sz112 : asz Tryd.prog 112 = some 1 := by kernel_rfl
theorem ag112 : aagg Tryd.prog 112 = some false := by kernel_rfl
theorem zr112 : azero Tryd.prog 112 = some (.pointer none) := by kernel_rfl
theorem sz113 : asz Tryd.prog 113 = some 1 := by kernel_rfl
theorem ag113 : aagg Tryd.prog 113 = some false := by kernel_rfl
theorem zr113 : azero Tryd.prog 113 = some (.int .u32 0) := by kernel_rfl
theorem sz115 : asz Tryd.prog 115 = some 4 := by kernel_rfl
theorem ag115 : aagg Tryd.prog 115 = some true := by kernel_rfl
theorem zr115 : azero Tryd.prog 115 = some (.agg #[.int .u32 0, .bool false, .int .i64 0, .int .i64 0]) := by kernel_rfl
theorem sz122 : asz Tryd.prog 122 = some 1 := by kernel_rfl
theorem ag122 : aagg Tryd.prog 122 = some false := by kernel_rfl
theorem zr122 : azero Tryd.prog 122 = some (.slice none 0 0) := by kernel_rfl
theorem sz124 : asz Tryd.prog 124 = some 3 := by kernel_rfl
theorem ag124 : aagg Tryd.prog 124 = some true := by kernel_rfl
theorem zr124 : azero Tryd.prog 124 = some (.agg #[.int .i64 0, .slice none 0 0, .slice none 0 0]) := by kernel_rfl
theorem sz125 : asz Tryd.prog 125 = some 1 := by kernel_rfl
theorem ag125 : aagg Tryd.prog 125 = some false := by kernel_rfl
theorem zr125 : azero Tryd.prog 125 = some (.pointer none) := by kernel_rfl
theorem sz129 : asz Tryd.prog 129 = some 8 := by kernel_rfl
theorem ag129 : aagg Tryd.prog 129 = some true := by kernel_rfl
theorem zr129 : azero Tryd.prog 129 = some (.agg #[.int .i64 0, .slice none 0 0, .string .empty, .int .i64 0, .int .i64 0, .string .empty, .slice none 0 0, .slice none 0 0]) := by kernel_rfl
theorem sz139 : asz Tryd.prog 139 = some 1 := by kernel_rfl
theorem ag139 : aagg Tryd.prog 139 = some false := by kernel_rfl
theorem zr139 : azero Tryd.prog 139 = some (.nilFunc) := by kernel_rfl
theorem sz142 : asz Tryd.prog 142 = some 1 := by kernel_rfl
theorem ag142 : aagg Tryd.prog 142 = some false := by kernel_rfl
theorem zr142 : azero Tryd.prog 142 = some (.int .u64 0) := by kernel_rfl
theorem sz165 : asz Tryd.prog 165 = some 0 := by kernel_rfl
theorem ag165 : aagg Tryd.prog 165 = some true := by kernel_rfl
theorem zr165 : azero Tryd.prog 165 = some (.agg #[]) := by kernel_rfl
theorem sz167 : asz Tryd.prog 167 = some 0 := by kernel_rfl
theorem ag167 : aagg Tryd.prog 167 = some true := by kernel_rfl
theorem zr167 : azero Tryd.prog 167 = some (.agg #[]) := by kernel_rfl
theorem ld2 (hE : E.P = Tryd.prog) {a : Addr} : aload E h 2 (.pointer (some a)) = (acells E h a 1).bind fun l => l[0]? := by simp only [aload, hE, ag2]
theorem st2 (hE : E.P = Tryd.prog) {a : Addr} {v : Value} : astore E h 2 (.pointer (some a)) v = if 1 = (vcells v).length then awrite h a (vcells v) else none := by simp [astore, hE, sz2]
theorem al2 : aalloc Tryd.prog ev (.alloc 2) = some (fun b => .pointer (some ⟨b, 0, none⟩), .cells [.int .i64 0] 2 true) := by simp [aalloc, zr2, vcells]
theorem ld3 (hE : E.P = Tryd.prog) {a : Addr} : aload E h 3 (.pointer (some a)) = (acells E h a 1).bind fun l => l[0]? := by simp only [aload, hE, ag3]
theorem st3 (hE : E.P = Tryd.prog) {a : Addr} {v : Value} : astore E h 3 (.pointer (some a)) v = if 1 = (vcells v).length then awrite h a (vcells v) else none := by simp [astore, hE, sz3]
theorem al3 : aalloc Tryd.prog ev (.alloc 3) = some (fun b => .pointer (some ⟨b, 0, none⟩), .cells [.int .i64 0] 3 true) := by simp [aalloc, zr3, vcells]
theorem ld4 (hE : E.P = Tryd.prog) {a : Addr} : aload E h 4 (.pointer (some a)) = (acells E h a 1).bind fun l => l[0]? := by simp only [aload, hE, ag4]
theorem st4 (hE : E.P = Tryd.prog) {a : Addr} {v : Value} : astore E h 4 (.pointer (some a)) v = if 1 = (vcells v).length then awrite h a (vcells v) else none := by simp [astore, hE, sz4]
theorem al4 : aalloc Tryd.prog ev (.alloc 4) = some (fun b => .pointer (some ⟨b, 0, none⟩), .cells [.bool false] 4 true) := by simp [aalloc, zr4, vcells]
theorem ld5 (hE : E.P = Tryd.prog) {a : Addr} : aload E h 5 (.pointer (some a)) = (acells E h a 1).bind fun l => l[0]? := by simp only [aload, hE, ag5]
theorem st5 (hE : E.P = Tryd.prog) {a : Addr} {v : Value} : astore E h 5 (.pointer (some a)) v = if 1 = (vcells v).length then awrite h a (vcells v) else none := by simp [astore, hE, sz5]
theorem al5 : aalloc Tryd.prog ev (.alloc 5) = some (fun b => .pointer (some ⟨b, 0, none⟩), .cells [.int .u8 0] 5 true) := by simp [aalloc, zr5, vcells]
theorem ld9 (hE : E.P = Tryd.prog) {a : Addr} : aload E h 9 (.pointer (some a)) = (acells E h a 1).bind fun l => l[0]? := by simp only [aload, hE, ag9]
theorem st9 (hE : E.P = Tryd.prog) {a : Addr} {v : Value} : astore E h 9 (.pointer (some a)) v = if 1 = (vcells v).length then awrite h a (vcells v) else none := by simp [astore, hE, sz9]
theorem al9 : aalloc Tryd.prog ev (.alloc 9) = some (fun b => .pointer (some ⟨b, 0, none⟩), .cells [.string .empty] 9 true) := by simp [aalloc, zr9, vcells]
theorem ld16 (hE : E.P = Tryd.prog) {a : Addr} : aload E h 16 (.pointer (some a)) = (acells E h a 1).bind fun l => l[0]? := by simp only [aload, hE, ag16]
theorem st16 (hE : E.P = Tryd.prog) {a : Addr} {v : Value} : astore E h 16 (.pointer (some a)) v = if 1 = (vcells v).length then awrite h a (vcells v) else none := by simp [astore, hE, sz16]
theorem al16 : aalloc Tryd.prog ev (.alloc 16) = some (fun b => .pointer (some ⟨b, 0, none⟩), .cells [.pointer none] 16 true) := by simp [aalloc, zr16, vcells]
theorem ld22 (hE : E.P = Tryd.prog) {a : Addr} : aload E h 22 (.pointer (some a)) = (acells E h a 1).bind fun l => l[0]? := by simp only [aload, hE, ag22]
theorem st22 (hE : E.P = Tryd.prog) {a : Addr} {v : Value} : astore E h 22 (.pointer (some a)) v = if 1 = (vcells v).length then awrite h a (vcells v) else none := by simp [astore, hE, sz22]
theorem al22 : aalloc Tryd.prog ev (.alloc 22) = some (fun b => .pointer (some ⟨b, 0, none⟩), .cells [.int .i64 0] 22 true) := by simp [aalloc, zr22, vcells]
theorem ld25 (hE : E.P = Tryd.prog) {a : Addr} : aload E h 25 (.pointer (some a)) = (acells E h a 1).bind fun l => l[0]? := by simp only [aload, hE, ag25]
theorem st25 (hE : E.P = Tryd.prog) {a : Addr} {v : Value} : astore E h 25 (.pointer (some a)) v = if 1 = (vcells v).length then awrite h a (vcells v) else none := by simp [astore, hE, sz25]
theorem al25 : aalloc Tryd.prog ev (.alloc 25) = some (fun b => .pointer (some ⟨b, 0, none⟩), .cells [.slice none 0 0] 25 true) := by simp [aalloc, zr25, vcells]
theorem ia25 {a : Addr} {len cap : Nat} {k : IntKind} {n : Int} (ha : a.spot = none) (h0 : 0 ≤ n) (h1 : n < len) : aindexAddr Tryd.prog 25 (.slice (some a) len cap) (.int k n) = some (.pointer (some ⟨a.block, a.off + n.toNat * 5, none⟩)) := by simp [aindexAddr, Tryd.underlying25, sz28, ha, addo, h0, h1]
theorem le25 {a : Option Addr} {len cap : Nat} : alen Tryd.prog 25 (.slice a len cap) = some (.int .i64 len) := by simp [alen, Tryd.underlying25]
theorem in28 : (Tryd.prog.info? 28).map (fun i => (i.size, i.bytes)) = some (5, 80) := by kernel_rfl
theorem mk25 {k k' : IntKind} {l c : Int} (h0 : 0 ≤ l) (h1 : l ≤ c) (h2 : 80 * c ≤ 281474976710656) (h3 : c ≤ 9223372036854775807) : amk Tryd.prog 25 (.int k l) (.int k' c) = some (fun b => .slice (some ⟨b, 0, none⟩) l.toNat c.toNat, .cells (arep c.toNat [.int .i64 0, .int .i64 0, .string .empty, .slice none 0 0, .slice none 0 0]) 28 true) := makeSlice_at (E := ⟨Tryd.prog, 0, fun _ => none, fun _ _ => none⟩) ⟨Tryd.underlying25, in28, ⟨_, zr28, rfl⟩, by decide⟩ ⟨_, zr28, rfl⟩ h0 h1 h2 h3
theorem bs25 {v : Value} (hl : (vcells v).length = 5) : abs1 Tryd.prog 25 1 [(0, v)] = some (fun b => .slice (some ⟨b, 0, none⟩) 1 1, .cells (vcells v) 28 true) := buildSlice_one (E := ⟨Tryd.prog, 0, fun _ => none, fun _ _ => none⟩) ⟨Tryd.underlying25, in28, ⟨_, zr28, rfl⟩, by decide⟩ hl (by decide)
theorem el25 (hE : E.P = Tryd.prog) : Elem E 25 28 5 80 := ⟨by rw [hE]; exact Tryd.underlying25, by rw [hE]; exact in28, ⟨_, by rw [hE]; exact zr28, rfl⟩, by decide⟩
theorem ld26 (hE : E.P = Tryd.prog) {a : Addr} : aload E h 26 (.pointer (some a)) = (acells E h a 1).bind fun l => l[0]? := by simp only [aload, hE, ag26]
theorem st26 (hE : E.P = Tryd.prog) {a : Addr} {v : Value} : astore E h 26 (.pointer (some a)) v = if 1 = (vcells v).length then awrite h a (vcells v) else none := by simp [astore, hE, sz26]
theorem al26 : aalloc Tryd.prog ev (.alloc 26) = some (fun b => .pointer (some ⟨b, 0, none⟩), .cells [.slice none 0 0] 26 true) := by simp [aalloc, zr26, vcells]
theorem ia26 {a : Addr} {len cap : Nat} {k : IntKind} {n : Int} (ha : a.spot = none) (h0 : 0 ≤ n) (h1 : n < len) : aindexAddr Tryd.prog 26 (.slice (some a) len cap) (.int k n) = some (.pointer (some ⟨a.block, a.off + n.toNat * 6, none⟩)) := by simp [aindexAddr, Tryd.underlying26, sz64, ha, addo, h0, h1]
theorem le26 {a : Option Addr} {len cap : Nat} : alen Tryd.prog 26 (.slice a len cap) = some (.int .i64 len) := by simp [alen, Tryd.underlying26]
theorem in64 : (Tryd.prog.info? 64).map (fun i => (i.size, i.bytes)) = some (6, 96) := by kernel_rfl
theorem mk26 {k k' : IntKind} {l c : Int} (h0 : 0 ≤ l) (h1 : l ≤ c) (h2 : 96 * c ≤ 281474976710656) (h3 : c ≤ 9223372036854775807) : amk Tryd.prog 26 (.int k l) (.int k' c) = some (fun b => .slice (some ⟨b, 0, none⟩) l.toNat c.toNat, .cells (arep c.toNat [.string .empty, .int .i64 0, .int .i64 0, .string .empty, .slice none 0 0, .slice none 0 0]) 64 true) := makeSlice_at (E := ⟨Tryd.prog, 0, fun _ => none, fun _ _ => none⟩) ⟨Tryd.underlying26, in64, ⟨_, zr64, rfl⟩, by decide⟩ ⟨_, zr64, rfl⟩ h0 h1 h2 h3
theorem bs26 {v : Value} (hl : (vcells v).length = 6) : abs1 Tryd.prog 26 1 [(0, v)] = some (fun b => .slice (some ⟨b, 0, none⟩) 1 1, .cells (vcells v) 64 true) := buildSlice_one (E := ⟨Tryd.prog, 0, fun _ => none, fun _ _ => none⟩) ⟨Tryd.underlying26, in64, ⟨_, zr64, rfl⟩, by decide⟩ hl (by decide)
theorem el26 (hE : E.P = Tryd.prog) : Elem E 26 64 6 96 := ⟨by rw [hE]; exact Tryd.underlying26, by rw [hE]; exact in64, ⟨_, by rw [hE]; exact zr64, rfl⟩, by decide⟩
theorem ld28 (hE : E.P = Tryd.prog) {a : Addr} : aload E h 28 (.pointer (some a)) = (acells E h a 5).map fun l => .agg l.toArray := by simp only [aload, hE, ag28, sz28]
theorem st28 (hE : E.P = Tryd.prog) {a : Addr} {v : Value} : astore E h 28 (.pointer (some a)) v = if 5 = (vcells v).length then awrite h a (vcells v) else none := by simp [astore, hE, sz28]
theorem al28 : aalloc Tryd.prog ev (.alloc 28) = some (fun b => .pointer (some ⟨b, 0, none⟩), .cells [.int .i64 0, .int .i64 0, .string .empty, .slice none 0 0, .slice none 0 0] 28 true) := by simp [aalloc, zr28, vcells]
theorem fa28_0 {a : Addr} (ha : a.spot = none) : afieldAddr Tryd.prog 28 (.pointer (some a)) 0 = some (.pointer (some ⟨a.block, a.off + 0, none⟩)) := by simp [afieldAddr, Tryd.underlying28, sz3, ha, addo]
theorem fd28_0 {c : Array Value} : afield Tryd.prog 28 (.agg c) 0 = c.toList[0]? := by simp [afield, apart, Tryd.underlying28, ag3]
theorem fa28_1 {a : Addr} (ha : a.spot = none) : afieldAddr Tryd.prog 28 (.pointer (some a)) 1 = some (.pointer (some ⟨a.block, a.off + 1, none⟩)) := by simp [afieldAddr, Tryd.underlying28, sz2, ha, addo]
theorem fd28_1 {c : Array Value} : afield Tryd.prog 28 (.agg c) 1 = c.toList[1]? := by simp [afield, apart, Tryd.underlying28, ag2]
theorem fa28_2 {a : Addr} (ha : a.spot = none) : afieldAddr Tryd.prog 28 (.pointer (some a)) 2 = some (.pointer (some ⟨a.block, a.off + 2, none⟩)) := by simp [afieldAddr, Tryd.underlying28, sz9, ha, addo]
theorem fd28_2 {c : Array Value} : afield Tryd.prog 28 (.agg c) 2 = c.toList[2]? := by simp [afield, apart, Tryd.underlying28, ag9]
theorem fa28_3 {a : Addr} (ha : a.spot = none) : afieldAddr Tryd.prog 28 (.pointer (some a)) 3 = some (.pointer (some ⟨a.block, a.off + 3, none⟩)) := by simp [afieldAddr, Tryd.underlying28, sz25, ha, addo]
theorem fd28_3 {c : Array Value} : afield Tryd.prog 28 (.agg c) 3 = c.toList[3]? := by simp [afield, apart, Tryd.underlying28, ag25]
theorem fa28_4 {a : Addr} (ha : a.spot = none) : afieldAddr Tryd.prog 28 (.pointer (some a)) 4 = some (.pointer (some ⟨a.block, a.off + 4, none⟩)) := by simp [afieldAddr, Tryd.underlying28, sz26, ha, addo]
theorem fd28_4 {c : Array Value} : afield Tryd.prog 28 (.agg c) 4 = c.toList[4]? := by simp [afield, apart, Tryd.underlying28, ag26]
theorem bd28 {ps : List (Nat × Value)} : abuild Tryd.prog 28 ps = (afill (fun i => ([(0, 1), (1, 1), (2, 1), (3, 1), (4, 1)] : List (Nat × Nat))[i]?) [.int .i64 0, .int .i64 0, .string .empty, .slice none 0 0, .slice none 0 0] ps).map fun l => .agg l.toArray := by simp [abuild, zr28, Tryd.underlying28, aplaces, sz2, sz25, sz26, sz3, sz9, vcells]
theorem ld34 (hE : E.P = Tryd.prog) {a : Addr} : aload E h 34 (.pointer (some a)) = (acells E h a 1).bind fun l => l[0]? := by simp only [aload, hE, ag34]
theorem st34 (hE : E.P = Tryd.prog) {a : Addr} {v : Value} : astore E h 34 (.pointer (some a)) v = if 1 = (vcells v).length then awrite h a (vcells v) else none := by simp [astore, hE, sz34]
theorem al34 : aalloc Tryd.prog ev (.alloc 34) = some (fun b => .pointer (some ⟨b, 0, none⟩), .cells [.pointer none] 34 true) := by simp [aalloc, zr34, vcells]
theorem ld37 (hE : E.P = Tryd.prog) {a : Addr} : aload E h 37 (.pointer (some a)) = (acells E h a 1).bind fun l => l[0]? := by simp only [aload, hE, ag37]
theorem st37 (hE : E.P = Tryd.prog) {a : Addr} {v : Value} : astore E h 37 (.pointer (some a)) v = if 1 = (vcells v).length then awrite h a (vcells v) else none := by simp [astore, hE, sz37]
theorem al37 : aalloc Tryd.prog ev (.alloc 37) = some (fun b => .pointer (some ⟨b, 0, none⟩), .cells [.int .u64 0] 37 true) := by simp [aalloc, zr37, vcells]
theorem ld41 (hE : E.P = Tryd.prog) {a : Addr} : aload E h 41 (.pointer (some a)) = (acells E h a 1).bind fun l => l[0]? := by simp only [aload, hE, ag41]
theorem st41 (hE : E.P = Tryd.prog) {a : Addr} {v : Value} : astore E h 41 (.pointer (some a)) v = if 1 = (vcells v).length then awrite h a (vcells v) else none := by simp [astore, hE, sz41]
theorem al41 : aalloc Tryd.prog ev (.alloc 41) = some (fun b => .pointer (some ⟨b, 0, none⟩), .cells [.slice none 0 0] 41 true) := by simp [aalloc, zr41, vcells]
theorem ia41 {a : Addr} {len cap : Nat} {k : IntKind} {n : Int} (ha : a.spot = none) (h0 : 0 ≤ n) (h1 : n < len) : aindexAddr Tryd.prog 41 (.slice (some a) len cap) (.int k n) = some (.pointer (some ⟨a.block, a.off + n.toNat * 1, none⟩)) := by simp [aindexAddr, Tryd.underlying41, sz37, ha, addo, h0, h1]
theorem le41 {a : Option Addr} {len cap : Nat} : alen Tryd.prog 41 (.slice a len cap) = some (.int .i64 len) := by simp [alen, Tryd.underlying41]
theorem in37 : (Tryd.prog.info? 37).map (fun i => (i.size, i.bytes)) = some (1, 8) := by kernel_rfl
theorem mk41 {k k' : IntKind} {l c : Int} (h0 : 0 ≤ l) (h1 : l ≤ c) (h2 : 8 * c ≤ 281474976710656) (h3 : c ≤ 9223372036854775807) : amk Tryd.prog 41 (.int k l) (.int k' c) = some (fun b => .slice (some ⟨b, 0, none⟩) l.toNat c.toNat, .cells (arep c.toNat [.int .u64 0]) 37 true) := makeSlice_at (E := ⟨Tryd.prog, 0, fun _ => none, fun _ _ => none⟩) ⟨Tryd.underlying41, in37, ⟨_, zr37, rfl⟩, by decide⟩ ⟨_, zr37, rfl⟩ h0 h1 h2 h3
theorem bs41 {v : Value} (hl : (vcells v).length = 1) : abs1 Tryd.prog 41 1 [(0, v)] = some (fun b => .slice (some ⟨b, 0, none⟩) 1 1, .cells (vcells v) 37 true) := buildSlice_one (E := ⟨Tryd.prog, 0, fun _ => none, fun _ _ => none⟩) ⟨Tryd.underlying41, in37, ⟨_, zr37, rfl⟩, by decide⟩ hl (by decide)
theorem el41 (hE : E.P = Tryd.prog) : Elem E 41 37 1 8 := ⟨by rw [hE]; exact Tryd.underlying41, by rw [hE]; exact in37, ⟨_, by rw [hE]; exact zr37, rfl⟩, by decide⟩
theorem ld42 (hE : E.P = Tryd.prog) {a : Addr} : aload E h 42 (.pointer (some a)) = (acells E h a 1).bind fun l => l[0]? := by simp only [aload, hE, ag42]
theorem st42 (hE : E.P = Tryd.prog) {a : Addr} {v : Value} : astore E h 42 (.pointer (some a)) v = if 1 = (vcells v).length then awrite h a (vcells v) else none := by simp [astore, hE, sz42]
theorem al42 : aalloc Tryd.prog ev (.alloc 42) = some (fun b => .pointer (some ⟨b, 0, none⟩), .cells [.pointer none] 42 true) := by simp [aalloc, zr42, vcells]
theorem ld45 (hE : E.P = Tryd.prog) {a : Addr} : aload E h 45 (.pointer (some a)) = (acells E h a 1).bind fun l => l[0]? := by simp only [aload, hE, ag45]
theorem st45 (hE : E.P = Tryd.prog) {a : Addr} {v : Value} : astore E h 45 (.pointer (some a)) v = if 1 = (vcells v).length then awrite h a (vcells v) else none := by simp [astore, hE, sz45]
theorem al45 : aalloc Tryd.prog ev (.alloc 45) = some (fun b => .pointer (some ⟨b, 0, none⟩), .cells [.pointer none] 45 true) := by simp [aalloc, zr45, vcells]
theorem ld58 (hE : E.P = Tryd.prog) {a : Addr} : aload E h 58 (.pointer (some a)) = (acells E h a 1).bind fun l => l[0]? := by simp only [aload, hE, ag58]
theorem st58 (hE : E.P = Tryd.prog) {a : Addr} {v : Value} : astore E h 58 (.pointer (some a)) v = if 1 = (vcells v).length then awrite h a (vcells v) else none := by simp [astore, hE, sz58]
theorem al58 : aalloc Tryd.prog ev (.alloc 58) = some (fun b => .pointer (some ⟨b, 0, none⟩), .cells [.nilFunc] 58 true) := by simp [aalloc, zr58, vcells]
theorem ld64 (hE : E.P = Tryd.prog) {a : Addr} : aload E h 64 (.pointer (some a)) = (acells E h a 6).map fun l => .agg l.toArray := by simp only [aload, hE, ag64, sz64]
theorem st64 (hE : E.P = Tryd.prog) {a : Addr} {v : Value} : astore E h 64 (.pointer (some a)) v = if 6 = (vcells v).length then awrite h a (vcells v) else none := by simp [astore, hE, sz64]
theorem al64 : aalloc Tryd.prog ev (.alloc 64) = some (fun b => .pointer (some ⟨b, 0, none⟩), .cells [.string .empty, .int .i64 0, .int .i64 0, .string .empty, .slice none 0 0, .slice none 0 0] 64 true) := by simp [aalloc, zr64, vcells]
theorem fa64_0 {a : Addr} (ha : a.spot = none) : afieldAddr Tryd.prog 64 (.pointer (some a)) 0 = some (.pointer (some ⟨a.block, a.off + 0, none⟩)) := by simp [afieldAddr, Tryd.underlying64, sz9, ha, addo]
theorem fd64_0 {c : Array Value} : afield Tryd.prog 64 (.agg c) 0 = c.toList[0]? := by simp [afield, apart, Tryd.underlying64, ag9]
theorem fa64_1 {a : Addr} (ha : a.spot = none) : afieldAddr Tryd.prog 64 (.pointer (some a)) 1 = some (.pointer (some ⟨a.block, a.off + 1, none⟩)) := by simp [afieldAddr, Tryd.underlying64, sz28, ha, addo]
theorem fd64_1 {c : Array Value} : afield Tryd.prog 64 (.agg c) 1 = some (.agg ((c.toList.drop 1).take 5).toArray) := by simp [afield, apart, Tryd.underlying64, ag28, sz28]
theorem bd64 {ps : List (Nat × Value)} : abuild Tryd.prog 64 ps = (afill (fun i => ([(0, 1), (1, 5)] : List (Nat × Nat))[i]?) [.string .empty, .int .i64 0, .int .i64 0, .string .empty, .slice none 0 0, .slice none 0 0] ps).map fun l => .agg l.toArray := by simp [abuild, zr64, Tryd.underlying64, aplaces, sz28, sz9, vcells]
theorem ld69 (hE : E.P = Tryd.prog) {a : Addr} : aload E h 69 (.pointer (some a)) = (acells E h a 1).map fun l => .agg l.toArray := by simp only [aload, hE, ag69, sz69]
theorem st69 (hE : E.P = Tryd.prog) {a : Addr} {v : Value} : astore E h 69 (.pointer (some a)) v = if 1 = (vcells v).length then awrite h a (vcells v) else none := by simp [astore, hE, sz69]
theorem al69 : aalloc Tryd.prog ev (.alloc 69) = some (fun b => .pointer (some ⟨b, 0, none⟩), .cells [.pointer none] 69 true) := by simp [aalloc, zr69, vcells]
theorem fa69_0 {a : Addr} (ha : a.spot = none) : afieldAddr Tryd.prog 69 (.pointer (some a)) 0 = some (.pointer (some ⟨a.block, a.off + 0, none⟩)) := by simp [afieldAddr, Tryd.underlying69, sz34, ha, addo]
theorem fd69_0 {c : Array Value} : afield Tryd.prog 69 (.agg c) 0 = c.toList[0]? := by simp [afield, apart, Tryd.underlying69, ag34]
theorem bd69 {ps : List (Nat × Value)} : abuild Tryd.prog 69 ps = (afill (fun i => ([(0, 1)] : List (Nat × Nat))[i]?) [.pointer none] ps).map fun l => .agg l.toArray := by simp [abuild, zr69, Tryd.underlying69, aplaces, sz34, vcells]
theorem ld73 (hE : E.P = Tryd.prog) {a : Addr} : aload E h 73 (.pointer (some a)) = (acells E h a 16).map fun l => .agg l.toArray := by simp only [aload, hE, ag73, sz73]
theorem st73 (hE : E.P = Tryd.prog) {a : Addr} {v : Value} : astore E h 73 (.pointer (some a)) v = if 16 = (vcells v).length then awrite h a (vcells v) else none := by simp [astore, hE, sz73]
theorem al73 : aalloc Tryd.prog ev (.alloc 73) = some (fun b => .pointer (some ⟨b, 0, none⟩), .cells [.int .u64 0, .int .u64 0, .int .u64 0, .int .u64 0, .int .u64 0, .int .u64 0, .int .u64 0, .int .u64 0, .int .u64 0, .int .u64 0, .int .u64 0, .int .u64 0, .int .u64 0, .int .u64 0, .int .u64 0, .int .u64 0] 73 true) := by simp [aalloc, zr73, vcells]
theorem ld75 (hE : E.P = Tryd.prog) {a : Addr} : aload E h 75 (.pointer (some a)) = (acells E h a 1).bind fun l => l[0]? := by simp only [aload, hE, ag75]
theorem st75 (hE : E.P = Tryd.prog) {a : Addr} {v : Value} : astore E h 75 (.pointer (some a)) v = if 1 = (vcells v).length then awrite h a (vcells v) else none := by simp [astore, hE, sz75]
theorem al75 : aalloc Tryd.prog ev (.alloc 75) = some (fun b => .pointer (some ⟨b, 0, none⟩), .cells [.nilIface] 75 true) := by simp [aalloc, zr75, vcells]
theorem ld77 (hE : E.P = Tryd.prog) {a : Addr} : aload E h 77 (.pointer (some a)) = (acells E h a 19).map fun l => .agg l.toArray := by simp only [aload, hE, ag77, sz77]
theorem st77 (hE : E.P = Tryd.prog) {a : Addr} {v : Value} : astore E h 77 (.pointer (some a)) v = if 19 = (vcells v).length then awrite h a (vcells v) else none := by simp [astore, hE, sz77]
theorem al77 : aalloc Tryd.prog ev (.alloc 77) = some (fun b => .pointer (some ⟨b, 0, none⟩), .cells [.pointer none, .pointer none, .int .u64 0, .int .u64 0, .int .u64 0, .int .u64 0, .int .u64 0, .int .u64 0, .int .u64 0, .int .u64 0, .int .u64 0, .int .u64 0, .int .u64 0, .int .u64 0, .int .u64 0, .int .u64 0, .int .u64 0, .int .u64 0, .nilIface] 77 true) := by simp [aalloc, zr77, vcells]
theorem fa77_0 {a : Addr} (ha : a.spot = none) : afieldAddr Tryd.prog 77 (.pointer (some a)) 0 = some (.pointer (some ⟨a.block, a.off + 0, none⟩)) := by simp [afieldAddr, Tryd.underlying77, sz42, ha, addo]
theorem fd77_0 {c : Array Value} : afield Tryd.prog 77 (.agg c) 0 = c.toList[0]? := by simp [afield, apart, Tryd.underlying77, ag42]
theorem fa77_1 {a : Addr} (ha : a.spot = none) : afieldAddr Tryd.prog 77 (.pointer (some a)) 1 = some (.pointer (some ⟨a.block, a.off + 1, none⟩)) := by simp [afieldAddr, Tryd.underlying77, sz45, ha, addo]
theorem fd77_1 {c : Array Value} : afield Tryd.prog 77 (.agg c) 1 = c.toList[1]? := by simp [afield, apart, Tryd.underlying77, ag45]
theorem fa77_2 {a : Addr} (ha : a.spot = none) : afieldAddr Tryd.prog 77 (.pointer (some a)) 2 = some (.pointer (some ⟨a.block, a.off + 2, none⟩)) := by simp [afieldAddr, Tryd.underlying77, sz73, ha, addo]
theorem fd77_2 {c : Array Value} : afield Tryd.prog 77 (.agg c) 2 = some (.agg ((c.toList.drop 2).take 16).toArray) := by simp [afield, apart, Tryd.underlying77, ag73, sz73]
theorem fa77_3 {a : Addr} (ha : a.spot = none) : afieldAddr Tryd.prog 77 (.pointer (some a)) 3 = some (.pointer (some ⟨a.block, a.off + 18, none⟩)) := by simp [afieldAddr, Tryd.underlying77, sz75, ha, addo]
theorem fd77_3 {c : Array Value} : afield Tryd.prog 77 (.agg c) 3 = c.toList[18]? := by simp [afield, apart, Tryd.underlying77, ag75]
theorem bd77 {ps : List (Nat × Value)} : abuild Tryd.prog 77 ps = (afill (fun i => ([(0, 1), (1, 1), (2, 16), (18, 1)] : List (Nat × Nat))[i]?) [.pointer none, .pointer none, .int .u64 0, .int .u64 0, .int .u64 0, .int .u64 0, .int .u64 0, .int .u64 0, .int .u64 0, .int .u64 0, .int .u64 0, .int .u64 0, .int .u64 0, .int .u64 0, .int .u64 0, .int .u64 0, .int .u64 0, .int .u64 0, .nilIface] ps).map fun l => .agg l.toArray := by simp [abuild, zr77, Tryd.underlying77, aplaces, sz42, sz45, sz73, sz75, vcells]
theorem ld79 (hE : E.P = Tryd.prog) {a : Addr} : aload E h 79 (.pointer (some a)) = (acells E h a 6).map fun l => .agg l.toArray := by simp only [aload, hE, ag79, sz79]
theorem st79 (hE : E.P = Tryd.prog) {a : Addr} {v : Value} : astore E h 79 (.pointer (some a)) v = if 6 = (vcells v).length then awrite h a (vcells v) else none := by simp [astore, hE, sz79]
theorem al79 : aalloc Tryd.prog ev (.alloc 79) = some (fun b => .pointer (some ⟨b, 0, none⟩), .cells [.slice none 0 0, .slice none 0 0, .int .i64 0, .int .i64 0, .int .i64 0, .bool false] 79 true) := by simp [aalloc, zr79, vcells]
theorem fa79_0 {a : Addr} (ha : a.spot = none) : afieldAddr Tryd.prog 79 (.pointer (some a)) 0 = some (.pointer (some ⟨a.block, a.off + 0, none⟩)) := by simp [afieldAddr, Tryd.underlying79, sz41, ha, addo]
theorem fd79_0 {c : Array Value} : afield Tryd.prog 79 (.agg c) 0 = c.toList[0]? := by simp [afield, apart, Tryd.underlying79, ag41]
theorem fa79_1 {a : Addr} (ha : a.spot = none) : afieldAddr Tryd.prog 79 (.pointer (some a)) 1 = some (.pointer (some ⟨a.block, a.off + 1, none⟩)) := by simp [afieldAddr, Tryd.underlying79, sz41, ha, addo]
theorem fd79_1 {c : Array Value} : afield Tryd.prog 79 (.agg c) 1 = c.toList[1]? := by simp [afield, apart, Tryd.underlying79, ag41]
theorem fa79_2 {a : Addr} (ha : a.spot = none) : afieldAddr Tryd.prog 79 (.pointer (some a)) 2 = some (.pointer (some ⟨a.block, a.off + 2, none⟩)) := by simp [afieldAddr, Tryd.underlying79, sz3, ha, addo]
theorem fd79_2 {c : Array Value} : afield Tryd.prog 79 (.agg c) 2 = c.toList[2]? := by simp [afield, apart, Tryd.underlying79, ag3]
theorem fa79_3 {a : Addr} (ha : a.spot = none) : afieldAddr Tryd.prog 79 (.pointer (some a)) 3 = some (.pointer (some ⟨a.block, a.off + 3, none⟩)) := by simp [afieldAddr, Tryd.underlying79, sz3, ha, addo]
theorem fd79_3 {c : Array Value} : afield Tryd.prog 79 (.agg c) 3 = c.toList[3]? := by simp [afield, apart, Tryd.underlying79, ag3]
theorem fa79_4 {a : Addr} (ha : a.spot = none) : afieldAddr Tryd.prog 79 (.pointer (some a)) 4 = some (.pointer (some ⟨a.block, a.off + 4, none⟩)) := by simp [afieldAddr, Tryd.underlying79, sz3, ha, addo]
theorem fd79_4 {c : Array Value} : afield Tryd.prog 79 (.agg c) 4 = c.toList[4]? := by simp [afield, apart, Tryd.underlying79, ag3]
theorem fa79_5 {a : Addr} (ha : a.spot = none) : afieldAddr Tryd.prog 79 (.pointer (some a)) 5 = some (.pointer (some ⟨a.block, a.off + 5, none⟩)) := by simp [afieldAddr, Tryd.underlying79, sz4, ha, addo]
theorem fd79_5 {c : Array Value} : afield Tryd.prog 79 (.agg c) 5 = c.toList[5]? := by simp [afield, apart, Tryd.underlying79, ag4]
theorem bd79 {ps : List (Nat × Value)} : abuild Tryd.prog 79 ps = (afill (fun i => ([(0, 1), (1, 1), (2, 1), (3, 1), (4, 1), (5, 1)] : List (Nat × Nat))[i]?) [.slice none 0 0, .slice none 0 0, .int .i64 0, .int .i64 0, .int .i64 0, .bool false] ps).map fun l => .agg l.toArray := by simp [abuild, zr79, Tryd.underlying79, aplaces, sz3, sz4, sz41, vcells]
theorem ld80 (hE : E.P = Tryd.prog) {a : Addr} : aload E h 80 (.pointer (some a)) = (acells E h a 1).bind fun l => l[0]? := by simp only [aload, hE, ag80]
theorem st80 (hE : E.P = Tryd.prog) {a : Addr} {v : Value} : astore E h 80 (.pointer (some a)) v = if 1 = (vcells v).length then awrite h a (vcells v) else none := by simp [astore, hE, sz80]
theorem al80 : aalloc Tryd.prog ev (.alloc 80) = some (fun b => .pointer (some ⟨b, 0, none⟩), .cells [.slice none 0 0] 80 true) := by simp [aalloc, zr80, vcells]
theorem ia80 {a : Addr} {len cap : Nat} {k : IntKind} {n : Int} (ha : a.spot = none) (h0 : 0 ≤ n) (h1 : n < len) : aindexAddr Tryd.prog 80 (.slice (some a) len cap) (.int k n) = some (.pointer (some ⟨a.block, a.off + n.toNat * 4, none⟩)) := by simp [aindexAddr, Tryd.underlying80, sz115, ha, addo, h0, h1]
theorem le80 {a : Option Addr} {len cap : Nat} : alen Tryd.prog 80 (.slice a len cap) = some (.int .i64 len) := by simp [alen, Tryd.underlying80]
theorem in115 : (Tryd.prog.info? 115).map (fun i => (i.size, i.bytes)) = some (4, 24) := by kernel_rfl
theorem mk80 {k k' : IntKind} {l c : Int} (h0 : 0 ≤ l) (h1 : l ≤ c) (h2 : 24 * c ≤ 281474976710656) (h3 : c ≤ 9223372036854775807) : amk Tryd.prog 80 (.int k l) (.int k' c) = some (fun b => .slice (some ⟨b, 0, none⟩) l.toNat c.toNat, .cells (arep c.toNat [.int .u32 0, .bool false, .int .i64 0, .int .i64 0]) 115 true) := makeSlice_at (E := ⟨Tryd.prog, 0, fun _ => none, fun _ _ => none⟩) ⟨Tryd.underlying80, in115, ⟨_, zr115, rfl⟩, by decide⟩ ⟨_, zr115, rfl⟩ h0 h1 h2 h3
theorem bs80 {v : Value} (hl : (vcells v).length = 4) : abs1 Tryd.prog 80 1 [(0, v)] = some (fun b => .slice (some ⟨b, 0, none⟩) 1 1, .cells (vcells v) 115 true) := buildSlice_one (E := ⟨Tryd.prog, 0, fun _ => none, fun _ _ => none⟩) ⟨Tryd.underlying80, in115, ⟨_, zr115, rfl⟩, by decide⟩ hl (by decide)
theorem el80 (hE : E.P = Tryd.prog) : Elem E 80 115 4 24 := ⟨by rw [hE]; exact Tryd.underlying80, by rw [hE]; exact in115, ⟨_, by rw [hE]; exact zr115, rfl⟩, by decide⟩
theorem ld82 (hE : E.P = Tryd.prog) {a : Addr} : aload E h 82 (.pointer (some a)) = (acells E h a 4).map fun l => .agg l.toArray := by simp only [aload, hE, ag82, sz82]
theorem st82 (hE : E.P = Tryd.prog) {a : Addr} {v : Value} : astore E h 82 (.pointer (some a)) v = if 4 = (vcells v).length then awrite h a (vcells v) else none := by simp [astore, hE, sz82]
theorem al82 : aalloc Tryd.prog ev (.alloc 82) = some (fun b => .pointer (some ⟨b, 0, none⟩), .cells [.slice none 0 0, .int .i64 0, .int .i64 0, .int .i64 0] 82 true) := by simp [aalloc, zr82, vcells]
theorem fa82_0 {a : Addr} (ha : a.spot = none) : afieldAddr Tryd.prog 82 (.pointer (some a)) 0 = some (.pointer (some ⟨a.block, a.off + 0, none⟩)) := by simp [afieldAddr, Tryd.underlying82, sz80, ha, addo]
theorem fd82_0 {c : Array Value} : afield Tryd.prog 82 (.agg c) 0 = c.toList[0]? := by simp [afield, apart, Tryd.underlying82, ag80]
theorem fa82_1 {a : Addr} (ha : a.spot = none) : afieldAddr Tryd.prog 82 (.pointer (some a)) 1 = some (.pointer (some ⟨a.block, a.off + 1, none⟩)) := by simp [afieldAddr, Tryd.underlying82, sz3, ha, addo]
theorem fd82_1 {c : Array Value} : afield Tryd.prog 82 (.agg c) 1 = c.toList[1]? := by simp [afield, apart, Tryd.underlying82, ag3]
theorem fa82_2 {a : Addr} (ha : a.spot = none) : afieldAddr Tryd.prog 82 (.pointer (some a)) 2 = some (.pointer (some ⟨a.block, a.off + 2, none⟩)) := by simp [afieldAddr, Tryd.underlying82, sz3, ha, addo]
theorem fd82_2 {c : Array Value} : afield Tryd.prog 82 (.agg c) 2 = c.toList[2]? := by simp [afield, apart, Tryd.underlying82, ag3]
theorem fa82_3 {a : Addr} (ha : a.spot = none) : afieldAddr Tryd.prog 82 (.pointer (some a)) 3 = some (.pointer (some ⟨a.block, a.off + 3, none⟩)) := by simp [afieldAddr, Tryd.underlying82, sz3, ha, addo]
theorem fd82_3 {c : Array Value} : afield Tryd.prog 82 (.agg c) 3 = c.toList[3]? := by simp [afield, apart, Tryd.underlying82, ag3]
theorem bd82 {ps : List (Nat × Value)} : abuild Tryd.prog 82 ps = (afill (fun i => ([(0, 1), (1, 1), (2, 1), (3, 1)] : List (Nat × Nat))[i]?) [.slice none 0 0, .int .i64 0, .int .i64 0, .int .i64 0] ps).map fun l => .agg l.toArray := by simp [abuild, zr82, Tryd.underlying82, aplaces, sz3, sz80, vcells]
theorem ld91 (hE : E.P = Tryd.prog) {a : Addr} : aload E h 91 (.pointer (some a)) = (acells E h a 5).map fun l => .agg l.toArray := by simp only [aload, hE, ag91, sz91]
theorem st91 (hE : E.P = Tryd.prog) {a : Addr} {v : Value} : astore E h 91 (.pointer (some a)) v = if 5 = (vcells v).length then awrite h a (vcells v) else none := by simp [astore, hE, sz91]
theorem al91 : aalloc Tryd.prog ev (.alloc 91) = some (fun b => .pointer (some ⟨b, 0, none⟩), .cells [.int .i64 0, .int .i64 0, .int .i64 0, .bool false, .int .i64 0] 91 true) := by simp [aalloc, zr91, vcells]
theorem fa91_0 {a : Addr} (ha : a.spot = none) : afieldAddr Tryd.prog 91 (.pointer (some a)) 0 = some (.pointer (some ⟨a.block, a.off + 0, none⟩)) := by simp [afieldAddr, Tryd.underlying91, sz3, ha, addo]
theorem fd91_0 {c : Array Value} : afield Tryd.prog 91 (.agg c) 0 = c.toList[0]? := by simp [afield, apart, Tryd.underlying91, ag3]
theorem fa91_1 {a : Addr} (ha : a.spot = none) : afieldAddr Tryd.prog 91 (.pointer (some a)) 1 = some (.pointer (some ⟨a.block, a.off + 1, none⟩)) := by simp [afieldAddr, Tryd.underlying91, sz3, ha, addo]
theorem fd91_1 {c : Array Value} : afield Tryd.prog 91 (.agg c) 1 = c.toList[1]? := by simp [afield, apart, Tryd.underlying91, ag3]
theorem fa91_2 {a : Addr} (ha : a.spot = none) : afieldAddr Tryd.prog 91 (.pointer (some a)) 2 = some (.pointer (some ⟨a.block, a.off + 2, none⟩)) := by simp [afieldAddr, Tryd.underlying91, sz3, ha, addo]
theorem fd91_2 {c : Array Value} : afield Tryd.prog 91 (.agg c) 2 = c.toList[2]? := by simp [afield, apart, Tryd.underlying91, ag3]
theorem fa91_3 {a : Addr} (ha : a.spot = none) : afieldAddr Tryd.prog 91 (.pointer (some a)) 3 = some (.pointer (some ⟨a.block, a.off + 3, none⟩)) := by simp [afieldAddr, Tryd.underlying91, sz4, ha, addo]
theorem fd91_3 {c : Array Value} : afield Tryd.prog 91 (.agg c) 3 = c.toList[3]? := by simp [afield, apart, Tryd.underlying91, ag4]
theorem fa91_4 {a : Addr} (ha : a.spot = none) : afieldAddr Tryd.prog 91 (.pointer (some a)) 4 = some (.pointer (some ⟨a.block, a.off + 4, none⟩)) := by simp [afieldAddr, Tryd.underlying91, sz3, ha, addo]
theorem fd91_4 {c : Array Value} : afield Tryd.prog 91 (.agg c) 4 = c.toList[4]? := by simp [afield, apart, Tryd.underlying91, ag3]
theorem bd91 {ps : List (Nat × Value)} : abuild Tryd.prog 91 ps = (afill (fun i => ([(0, 1), (1, 1), (2, 1), (3, 1), (4, 1)] : List (Nat × Nat))[i]?) [.int .i64 0, .int .i64 0, .int .i64 0, .bool false, .int .i64 0] ps).map fun l => .agg l.toArray := by simp [abuild, zr91, Tryd.underlying91, aplaces, sz3, sz4, vcells]
theorem ld97 (hE : E.P = Tryd.prog) {a : Addr} : aload E h 97 (.pointer (some a)) = (acells E h a 1).bind fun l => l[0]? := by simp only [aload, hE, ag97]
theorem st97 (hE : E.P = Tryd.prog) {a : Addr} {v : Value} : astore E h 97 (.pointer (some a)) v = if 1 = (vcells v).length then awrite h a (vcells v) else none := by simp [astore, hE, sz97]
theorem al97 : aalloc Tryd.prog ev (.alloc 97) = some (fun b => .pointer (some ⟨b, 0, none⟩), .cells [.pointer none] 97 true) := by simp [aalloc, zr97, vcells]
theorem ld99 (hE : E.P = Tryd.prog) {a : Addr} : aload E h 99 (.pointer (some a)) = (acells E h a 2).map fun l => .agg l.toArray := by simp only [aload, hE, ag99, sz99]
theorem st99 (hE : E.P = Tryd.prog) {a : Addr} {v : Value} : astore E h 99 (.pointer (some a)) v = if 2 = (vcells v).length then awrite h a (vcells v) else none := by simp [astore, hE, sz99]
theorem al99 : aalloc Tryd.prog ev (.alloc 99) = some (fun b => .pointer (some ⟨b, 0, none⟩), .cells [.pointer none, .int .i64 0] 99 true) := by simp [aalloc, zr99, vcells]
theorem fa99_0 {a : Addr} (ha : a.spot = none) : afieldAddr Tryd.prog 99 (.pointer (some a)) 0 = some (.pointer (some ⟨a.block, a.off + 0, none⟩)) := by simp [afieldAddr, Tryd.underlying99, sz34, ha, addo]
theorem fd99_0 {c : Array Value} : afield Tryd.prog 99 (.agg c) 0 = c.toList[0]? := by simp [afield, apart, Tryd.underlying99, ag34]
theorem fa99_1 {a : Addr} (ha : a.spot = none) : afieldAddr Tryd.prog 99 (.pointer (some a)) 1 = some (.pointer (some ⟨a.block, a.off + 1, none⟩)) := by simp [afieldAddr, Tryd.underlying99, sz3, ha, addo]
theorem fd99_1 {c : Array Value} : afield Tryd.prog 99 (.agg c) 1 = c.toList[1]? := by simp [afield, apart, Tryd.underlying99, ag3]
theorem bd99 {ps : List (Nat × Value)} : abuild Tryd.prog 99 ps = (afill (fun i => ([(0, 1), (1, 1)] : List (Nat × Nat))[i]?) [.pointer none, .int .i64 0] ps).map fun l => .agg l.toArray := by simp [abuild, zr99, Tryd.underlying99, aplaces, sz3, sz34, vcells]
theorem ld102 (hE : E.P = Tryd.prog) {a : Addr} : aload E h 102 (.pointer (some a)) = (acells E h a 1).bind fun l => l[0]? := by simp only [aload, hE, ag102]
theorem st102 (hE : E.P = Tryd.prog) {a : Addr} {v : Value} : astore E h 102 (.pointer (some a)) v = if 1 = (vcells v).length then awrite h a (vcells v) else none := by simp [astore, hE, sz102]
theorem al102 : aalloc Tryd.prog ev (.alloc 102) = some (fun b => .pointer (some ⟨b, 0, none⟩), .cells [.slice none 0 0] 102 true) := by simp [aalloc, zr102, vcells]
theorem ia102 {a : Addr} {len cap : Nat} {k : IntKind} {n : Int} (ha : a.spot = none) (h0 : 0 ≤ n) (h1 : n < len) : aindexAddr Tryd.prog 102 (.slice (some a) len cap) (.int k n) = some (.pointer (some ⟨a.block, a.off + n.toNat * 1, none⟩)) := by simp [aindexAddr, Tryd.underlying102, sz5, ha, addo, h0, h1]
theorem le102 {a : Option Addr} {len cap : Nat} : alen Tryd.prog 102 (.slice a len cap) = some (.int .i64 len) := by simp [alen, Tryd.underlying102]
theorem in5 : (Tryd.prog.info? 5).map (fun i => (i.size, i.bytes)) = some (1, 1) := by kernel_rfl
theorem mk102 {k k' : IntKind} {l c : Int} (h0 : 0 ≤ l) (h1 : l ≤ c) (h2 : 1 * c ≤ 281474976710656) (h3 : c ≤ 9223372036854775807) : amk Tryd.prog 102 (.int k l) (.int k' c) = some (fun b => .slice (some ⟨b, 0, none⟩) l.toNat c.toNat, .cells (arep c.toNat [.int .u8 0]) 5 true) := makeSlice_at (E := ⟨Tryd.prog, 0, fun _ => none, fun _ _ => none⟩) ⟨Tryd.underlying102, in5, ⟨_, zr5, rfl⟩, by decide⟩ ⟨_, zr5, rfl⟩ h0 h1 h2 h3
theorem bs102 {v : Value} (hl : (vcells v).length = 1) : abs1 Tryd.prog 102 1 [(0, v)] = some (fun b => .slice (some ⟨b, 0, none⟩) 1 1, .cells (vcells v) 5 true) := buildSlice_one (E := ⟨Tryd.prog, 0, fun _ => none, fun _ _ => none⟩) ⟨Tryd.underlying102, in5, ⟨_, zr5, rfl⟩, by decide⟩ hl (by decide)
theorem el102 (hE : E.P = Tryd.prog) : Elem E 102 5 1 1 := ⟨by rw [hE]; exact Tryd.underlying102, by rw [hE]; exact in5, ⟨_, by rw [hE]; exact zr5, rfl⟩, by decide⟩
theorem ld112 (hE : E.P = Tryd.prog) {a : Addr} : aload E h 112 (.pointer (some a)) = (acells E h a 1).bind fun l => l[0]? := by simp only [aload, hE, ag112]
theorem st112 (hE : E.P = Tryd.prog) {a : Addr} {v : Value} : astore E h 112 (.pointer (some a)) v = if 1 = (vcells v).length then awrite h a (vcells v) else none := by simp [astore, hE, sz112]
theorem al112 : aalloc Tryd.prog ev (.alloc 112) = some (fun b => .pointer (some ⟨b, 0, none⟩), .cells [.pointer none] 112 true) := by simp [aalloc, zr112, vcells]
theorem ld113 (hE : E.P = Tryd.prog) {a : Addr} : aload E h 113 (.pointer (some a)) = (acells E h a 1).bind fun l => l[0]? := by simp only [aload, hE, ag113]
theorem st113 (hE : E.P = Tryd.prog) {a : Addr} {v : Value} : astore E h 113 (.pointer (some a)) v = if 1 = (vcells v).length then awrite h a (vcells v) else none := by simp [astore, hE, sz113]
theorem al113 : aalloc Tryd.prog ev (.alloc 113) = some (fun b => .pointer (some ⟨b, 0, none⟩), .cells [.int .u32 0] 113 true) := by simp [aalloc, zr113, vcells]
theorem ld115 (hE : E.P = Tryd.prog) {a : Addr} : aload E h 115 (.pointer (some a)) = (acells E h a 4).map fun l => .agg l.toArray := by simp only [aload, hE, ag115, sz115]
theorem st115 (hE : E.P = Tryd.prog) {a : Addr} {v : Value} : astore E h 115 (.pointer (some a)) v = if 4 = (vcells v).length then awrite h a (vcells v) else none := by simp [astore, hE, sz115]
theorem al115 : aalloc Tryd.prog ev (.alloc 115) = some (fun b => .pointer (some ⟨b, 0, none⟩), .cells [.int .u32 0, .bool false, .int .i64 0, .int .i64 0] 115 true) := by simp [aalloc, zr115, vcells]
theorem fa115_0 {a : Addr} (ha : a.spot = none) : afieldAddr Tryd.prog 115 (.pointer (some a)) 0 = some (.pointer (some ⟨a.block, a.off + 0, none⟩)) := by simp [afieldAddr, Tryd.underlying115, sz113, ha, addo]
theorem fd115_0 {c : Array Value} : afield Tryd.prog 115 (.agg c) 0 = c.toList[0]? := by simp [afield, apart, Tryd.underlying115, ag113]
theorem fa115_1 {a : Addr} (ha : a.spot = none) : afieldAddr Tryd.prog 115 (.pointer (some a)) 1 = some (.pointer (some ⟨a.block, a.off + 1, none⟩)) := by simp [afieldAddr, Tryd.underlying115, sz4, ha, addo]
theorem fd115_1 {c : Array Value} : afield Tryd.prog 115 (.agg c) 1 = c.toList[1]? := by simp [afield, apart, Tryd.underlying115, ag4]
theorem fa115_2 {a : Addr} (ha : a.spot = none) : afieldAddr Tryd.prog 115 (.pointer (some a)) 2 = some (.pointer (some ⟨a.block, a.off + 2, none⟩)) := by simp [afieldAddr, Tryd.underlying115, sz3, ha, addo]
theorem fd115_2 {c : Array Value} : afield Tryd.prog 115 (.agg c) 2 = c.toList[2]? := by simp [afield, apart, Tryd.underlying115, ag3]
theorem fa115_3 {a : Addr} (ha : a.spot = none) : afieldAddr Tryd.prog 115 (.pointer (some a)) 3 = some (.pointer (some ⟨a.block, a.off + 3, none⟩)) := by simp [afieldAddr, Tryd.underlying115, sz3, ha, addo]
theorem fd115_3 {c : Array Value} : afield Tryd.prog 115 (.agg c) 3 = c.toList[3]? := by simp [afield, apart, Tryd.underlying115, ag3]
theorem bd115 {ps : List (Nat × Value)} : abuild Tryd.prog 115 ps = (afill (fun i => ([(0, 1), (1, 1), (2, 1), (3, 1)] : List (Nat × Nat))[i]?) [.int .u32 0, .bool false, .int .i64 0, .int .i64 0] ps).map fun l => .agg l.toArray := by simp [abuild, zr115, Tryd.underlying115, aplaces, sz113, sz3, sz4, vcells]
theorem ld122 (hE : E.P = Tryd.prog) {a : Addr} : aload E h 122 (.pointer (some a)) = (acells E h a 1).bind fun l => l[0]? := by simp only [aload, hE, ag122]
theorem st122 (hE : E.P = Tryd.prog) {a : Addr} {v : Value} : astore E h 122 (.pointer (some a)) v = if 1 = (vcells v).length then awrite h a (vcells v) else none := by simp [astore, hE, sz122]
theorem al122 : aalloc Tryd.prog ev (.alloc 122) = some (fun b => .pointer (some ⟨b, 0, none⟩), .cells [.slice none 0 0] 122 true) := by simp [aalloc, zr122, vcells]
theorem ia122 {a : Addr} {len cap : Nat} {k : IntKind} {n : Int} (ha : a.spot = none) (h0 : 0 ≤ n) (h1 : n < len) : aindexAddr Tryd.prog 122 (.slice (some a) len cap) (.int k n) = some (.pointer (some ⟨a.block, a.off + n.toNat * 8, none⟩)) := by simp [aindexAddr, Tryd.underlying122, sz129, ha, addo, h0, h1]
theorem le122 {a : Option Addr} {len cap : Nat} : alen Tryd.prog 122 (.slice a len cap) = some (.int .i64 len) := by simp [alen, Tryd.underlying122]
theorem in129 : (Tryd.prog.info? 129).map (fun i => (i.size, i.bytes)) = some (8, 128) := by kernel_rfl
theorem mk122 {k k' : IntKind} {l c : Int} (h0 : 0 ≤ l) (h1 : l ≤ c) (h2 : 128 * c ≤ 281474976710656) (h3 : c ≤ 9223372036854775807) : amk Tryd.prog 122 (.int k l) (.int k' c) = some (fun b => .slice (some ⟨b, 0, none⟩) l.toNat c.toNat, .cells (arep c.toNat [.int .i64 0, .slice none 0 0, .string .empty, .int .i64 0, .int .i64 0, .string .empty, .slice none 0 0, .slice none 0 0]) 129 true) := makeSlice_at (E := ⟨Tryd.prog, 0, fun _ => none, fun _ _ => none⟩) ⟨Tryd.underlying122, in129, ⟨_, zr129, rfl⟩, by decide⟩ ⟨_, zr129, rfl⟩ h0 h1 h2 h3
theorem bs122 {v : Value} (hl : (vcells v).length = 8) : abs1 Tryd.prog 122 1 [(0, v)] = some (fun b => .slice (some ⟨b, 0, none⟩) 1 1, .cells (vcells v) 129 true) := buildSlice_one (E := ⟨Tryd.prog, 0, fun _ => none, fun _ _ => none⟩) ⟨Tryd.underlying122, in129, ⟨_, zr129, rfl⟩, by decide⟩ hl (by decide)
theorem el122 (hE : E.P = Tryd.prog) : Elem E 122 129 8 128 := ⟨by rw [hE]; exact Tryd.underlying122, by rw [hE]; exact in129, ⟨_, by rw [hE]; exact zr129, rfl⟩, by decide⟩
theorem ld124 (hE : E.P = Tryd.prog) {a : Addr} : aload E h 124 (.pointer (some a)) = (acells E h a 3).map fun l => .agg l.toArray := by simp only [aload, hE, ag124, sz124]
theorem st124 (hE : E.P = Tryd.prog) {a : Addr} {v : Value} : astore E h 124 (.pointer (some a)) v = if 3 = (vcells v).length then awrite h a (vcells v) else none := by simp [astore, hE, sz124]
theorem al124 : aalloc Tryd.prog ev (.alloc 124) = some (fun b => .pointer (some ⟨b, 0, none⟩), .cells [.int .i64 0, .slice none 0 0, .slice none 0 0] 124 true) := by simp [aalloc, zr124, vcells]
theorem fa124_0 {a : Addr} (ha : a.spot = none) : afieldAddr Tryd.prog 124 (.pointer (some a)) 0 = some (.pointer (some ⟨a.block, a.off + 0, none⟩)) := by simp [afieldAddr, Tryd.underlying124, sz3, ha, addo]
theorem fd124_0 {c : Array Value} : afield Tryd.prog 124 (.agg c) 0 = c.toList[0]? := by simp [afield, apart, Tryd.underlying124, ag3]
theorem fa124_1 {a : Addr} (ha : a.spot = none) : afieldAddr Tryd.prog 124 (.pointer (some a)) 1 = some (.pointer (some ⟨a.block, a.off + 1, none⟩)) := by simp [afieldAddr, Tryd.underlying124, sz41, ha, addo]
theorem fd124_1 {c : Array Value} : afield Tryd.prog 124 (.agg c) 1 = c.toList[1]? := by simp [afield, apart, Tryd.underlying124, ag41]
theorem fa124_2 {a : Addr} (ha : a.spot = none) : afieldAddr Tryd.prog 124 (.pointer (some a)) 2 = some (.pointer (some ⟨a.block, a.off + 2, none⟩)) := by simp [afieldAddr, Tryd.underlying124, sz41, ha, addo]
theorem fd124_2 {c : Array Value} : afield Tryd.prog 124 (.agg c) 2 = c.toList[2]? := by simp [afield, apart, Tryd.underlying124, ag41]
theorem bd124 {ps : List (Nat × Value)} : abuild Tryd.prog 124 ps = (afill (fun i => ([(0, 1), (1, 1), (2, 1)] : List (Nat × Nat))[i]?) [.int .i64 0, .slice none 0 0, .slice none 0 0] ps).map fun l => .agg l.toArray := by simp [abuild, zr124, Tryd.underlying124, aplaces, sz3, sz41, vcells]
theorem ld125 (hE : E.P = Tryd.prog) {a : Addr} : aload E h 125 (.pointer (some a)) = (acells E h a 1).bind fun l => l[0]? := by simp only [aload, hE, ag125]
theorem st125 (hE : E.P = Tryd.prog) {a : Addr} {v : Value} : astore E h 125 (.pointer (some a)) v = if 1 = (vcells v).length then awrite h a (vcells v) else none := by simp [astore, hE, sz125]
theorem al125 : aalloc Tryd.prog ev (.alloc 125) = some (fun b => .pointer (some ⟨b, 0, none⟩), .cells [.pointer none] 125 true) := by simp [aalloc, zr125, vcells]
theorem ld129 (hE : E.P = Tryd.prog) {a : Addr} : aload E h 129 (.pointer (some a)) = (acells E h a 8).map fun l => .agg l.toArray := by simp only [aload, hE, ag129, sz129]
theorem st129 (hE : E.P = Tryd.prog) {a : Addr} {v : Value} : astore E h 129 (.pointer (some a)) v = if 8 = (vcells v).length then awrite h a (vcells v) else none := by simp [astore, hE, sz129]
theorem al129 : aalloc Tryd.prog ev (.alloc 129) = some (fun b => .pointer (some ⟨b, 0, none⟩), .cells [.int .i64 0, .slice none 0 0, .string .empty, .int .i64 0, .int .i64 0, .string .empty, .slice none 0 0, .slice none 0 0] 129 true) := by simp [aalloc, zr129, vcells]
theorem fa129_0 {a : Addr} (ha : a.spot = none) : afieldAddr Tryd.prog 129 (.pointer (some a)) 0 = some (.pointer (some ⟨a.block, a.off + 0, none⟩)) := by simp [afieldAddr, Tryd.underlying129, sz3, ha, addo]
theorem fd129_0 {c : Array Value} : afield Tryd.prog 129 (.agg c) 0 = c.toList[0]? := by simp [afield, apart, Tryd.underlying129, ag3]
theorem fa129_1 {a : Addr} (ha : a.spot = none) : afieldAddr Tryd.prog 129 (.pointer (some a)) 1 = some (.pointer (some ⟨a.block, a.off + 1, none⟩)) := by simp [afieldAddr, Tryd.underlying129, sz41, ha, addo]
theorem fd129_1 {c : Array Value} : afield Tryd.prog 129 (.agg c) 1 = c.toList[1]? := by simp [afield, apart, Tryd.underlying129, ag41]
theorem fa129_2 {a : Addr} (ha : a.spot = none) : afieldAddr Tryd.prog 129 (.pointer (some a)) 2 = some (.pointer (some ⟨a.block, a.off + 2, none⟩)) := by simp [afieldAddr, Tryd.underlying129, sz9, ha, addo]
theorem fd129_2 {c : Array Value} : afield Tryd.prog 129 (.agg c) 2 = c.toList[2]? := by simp [afield, apart, Tryd.underlying129, ag9]
theorem fa129_3 {a : Addr} (ha : a.spot = none) : afieldAddr Tryd.prog 129 (.pointer (some a)) 3 = some (.pointer (some ⟨a.block, a.off + 3, none⟩)) := by simp [afieldAddr, Tryd.underlying129, sz28, ha, addo]
theorem fd129_3 {c : Array Value} : afield Tryd.prog 129 (.agg c) 3 = some (.agg ((c.toList.drop 3).take 5).toArray) := by simp [afield, apart, Tryd.underlying129, ag28, sz28]
theorem bd129 {ps : List (Nat × Value)} : abuild Tryd.prog 129 ps = (afill (fun i => ([(0, 1), (1, 1), (2, 1), (3, 5)] : List (Nat × Nat))[i]?) [.int .i64 0, .slice none 0 0, .string .empty, .int .i64 0, .int .i64 0, .string .empty, .slice none 0 0, .slice none 0 0] ps).map fun l => .agg l.toArray := by simp [abuild, zr129, Tryd.underlying129, aplaces, sz28, sz3, sz41, sz9, vcells]
theorem ld139 (hE : E.P = Tryd.prog) {a : Addr} : aload E h 139 (.pointer (some a)) = (acells E h a 1).bind fun l => l[0]? := by simp only [aload, hE, ag139]
theorem st139 (hE : E.P = Tryd.prog) {a : Addr} {v : Value} : astore E h 139 (.pointer (some a)) v = if 1 = (vcells v).length then awrite h a (vcells v) else none := by simp [astore, hE, sz139]
theorem al139 : aalloc Tryd.prog ev (.alloc 139) = some (fun b => .pointer (some ⟨b, 0, none⟩), .cells [.nilFunc] 139 true) := by simp [aalloc, zr139, vcells]
theorem ld142 (hE : E.P = Tryd.prog) {a : Addr} : aload E h 142 (.pointer (some a)) = (acells E h a 1).bind fun l => l[0]? := by simp only [aload, hE, ag142]
theorem st142 (hE : E.P = Tryd.prog) {a : Addr} {v : Value} : astore E h 142 (.pointer (some a)) v = if 1 = (vcells v).length then awrite h a (vcells v) else none := by simp [astore, hE, sz142]
theorem al142 : aalloc Tryd.prog ev (.alloc 142) = some (fun b => .pointer (some ⟨b, 0, none⟩), .cells [.int .u64 0] 142 true) := by simp [aalloc, zr142, vcells]
theorem ld165 (hE : E.P = Tryd.prog) {a : Addr} : aload E h 165 (.pointer (some a)) = (acells E h a 0).map fun l => .agg l.toArray := by simp only [aload, hE, ag165, sz165]
theorem st165 (hE : E.P = Tryd.prog) {a : Addr} {v : Value} : astore E h 165 (.pointer (some a)) v = if 0 = (vcells v).length then awrite h a (vcells v) else none := by simp [astore, hE, sz165]
theorem al165 : aalloc Tryd.prog ev (.alloc 165) = some (fun b => .pointer (some ⟨b, 0, none⟩), .cells [] 165 true) := by simp [aalloc, zr165, vcells]
theorem ld167 (hE : E.P = Tryd.prog) {a : Addr} : aload E h 167 (.pointer (some a)) = (acells E h a 0).map fun l => .agg l.toArray := by simp only [aload, hE, ag167, sz167]
theorem st167 (hE : E.P = Tryd.prog) {a : Addr} {v : Value} : astore E h 167 (.pointer (some a)) v = if 0 = (vcells v).length then awrite h a (vcells v) else none := by simp [astore, hE, sz167]
theorem al167 : aalloc Tryd.prog ev (.alloc 167) = some (fun b => .pointer (some ⟨b, 0, none⟩), .cells [] 167 true) := by simp [aalloc, zr167, vcells]
theorem bd167 {ps : List (Nat × Value)} : abuild Tryd.prog 167 ps = (afill (fun i => ([(0, 0)] : List (Nat × Nat))[i]?) [] ps).map fun l => .agg l.toArray := by simp [abuild, zr167, Tryd.underlying167, aplaces, sz165, vcells]
variable {O l : List Oper} {Q R : Cont} {tm : Tr Value} {d : Option Nat} {x : Operand}
theorem wlen9 (hE : E.P = Tryd.prog) : wop1 E (.call ⟨.builtin .len, #[x], #[9]⟩) d R tm h = kpure (alen Tryd.prog 9 (opd tm x)) d R tm h := by rw [wop_len (by rw [hE]; exact Tryd.underlying9) rfl, hE]
theorem le9 {s : ByteArray} : alen Tryd.prog 9 (.string s) = some (.int .i64 s.size) := by simp [alen, Tryd.underlying9]
theorem wlen25 (hE : E.P = Tryd.prog) : wop1 E (.call ⟨.builtin .len, #[x], #[25]⟩) d R tm h = kpure (alen Tryd.prog 25 (opd tm x)) d R tm h := by rw [wop_len (by rw [hE]; exact Tryd.underlying25) rfl, hE]
theorem wlen26 (hE : E.P = Tryd.prog) : wop1 E (.call ⟨.builtin .len, #[x], #[26]⟩) d R tm h = kpure (alen Tryd.prog 26 (opd tm x)) d R tm h := by rw [wop_len (by rw [hE]; exact Tryd.underlying26) rfl, hE]
theorem wlen41 (hE : E.P = Tryd.prog) : wop1 E (.call ⟨.builtin .len, #[x], #[41]⟩) d R tm h = kpure (alen Tryd.prog 41 (opd tm x)) d R tm h := by rw [wop_len (by rw [hE]; exact Tryd.underlying41) rfl, hE]
theorem wlen80 (hE : E.P = Tryd.prog) : wop1 E (.call ⟨.builtin .len, #[x], #[80]⟩) d R tm h = kpure (alen Tryd.prog 80 (opd tm x)) d R tm h := by rw [wop_len (by rw [hE]; exact Tryd.underlying80) rfl, hE]
theorem wlen102 (hE : E.P = Tryd.prog) : wop1 E (.call ⟨.builtin .len, #[x], #[102]⟩) d R tm h = kpure (alen Tryd.prog 102 (opd tm x)) d R tm h := by rw [wop_len (by rw [hE]; exact Tryd.underlying102) rfl, hE]
theorem wlen122 (hE : E.P = Tryd.prog) : wop1 E (.call ⟨.builtin .len, #[x], #[122]⟩) d R tm h = kpure (alen Tryd.prog 122 (opd tm x)) d R tm h := by rw [wop_len (by rw [hE]; exact Tryd.underlying122) rfl, hE]
theorem wcv2_37 (hE : E.P = Tryd.prog) : wop1 E (.convert 2 37 x) d R tm h = kpure (aconv Tryd.prog 2 37 (opd tm x)) d R tm h := by rw [wop_convert (by rw [hE]; exact Tryd.underlying2) rfl, hE]
theorem wcv3_37 (hE : E.P = Tryd.prog) : wop1 E (.convert 3 37 x) d R tm h = kpure (aconv Tryd.prog 3 37 (opd tm x)) d R tm h := by rw [wop_convert (by rw [hE]; exact Tryd.underlying3) rfl, hE]
theorem wcv5_37 (hE : E.P = Tryd.prog) : wop1 E (.convert 5 37 x) d R tm h = kpure (aconv Tryd.prog 5 37 (opd tm x)) d R tm h := by rw [wop_convert (by rw [hE]; exact Tryd.underlying5) rfl, hE]
theorem wcv37_2 (hE : E.P = Tryd.prog) : wop1 E (.convert 37 2 x) d R tm h = kpure (aconv Tryd.prog 37 2 (opd tm x)) d R tm h := by rw [wop_convert (by rw [hE]; exact Tryd.underlying37) rfl, hE]
theorem wcv37_3 (hE : E.P = Tryd.prog) : wop1 E (.convert 37 3 x) d R tm h = kpure (aconv Tryd.prog 37 3 (opd tm x)) d R tm h := by rw [wop_convert (by rw [hE]; exact Tryd.underlying37) rfl, hE]
theorem wcv37_5 (hE : E.P = Tryd.prog) : wop1 E (.convert 37 5 x) d R tm h = kpure (aconv Tryd.prog 37 5 (opd tm x)) d R tm h := by rw [wop_convert (by rw [hE]; exact Tryd.underlying37) rfl, hE]
theorem wcv102_9 (hE : E.P = Tryd.prog) : wop1 E (.convert 102 9 x) d R tm h = kpure (aread E h (opd tm) (.convert 102 9 x)) d R tm h := by rw [wop_convertB (by rw [hE]; exact Tryd.underlying102)]
theorem wcv113_37 (hE : E.P = Tryd.prog) : wop1 E (.convert 113 37 x) d R tm h = kpure (aconv Tryd.prog 113 37 (opd tm x)) d R tm h := by rw [wop_convert (by rw [hE]; exact Tryd.underlying113) rfl, hE]
attribute [push_cast] ld2 st2 al2 ld3 st3 al3 ld4 st4 al4 ld5 st5 al5 ld9 st9 al9 ld16 st16 al16 ld22 st22 al22 ld25 st25 al25 le25 ld26 st26 al26 le26 ld28 st28 al28 fa28_0 fd28_0 fa28_1 fd28_1 fa28_2 fd28_2 fa28_3 fd28_3 fa28_4 fd28_4 bd28 ld34 st34 al34 ld37 st37 al37 ld41 st41 al41 le41 ld42 st42 al42 ld45 st45 al45 ld58 st58 al58 ld64 st64 al64 fa64_0 fd64_0 fa64_1 fd64_1 bd64 ld69 st69 al69 fa69_0 fd69_0 bd69 ld73 st73 al73 ld75 st75 al75 ld77 st77 al77 fa77_0 fd77_0 fa77_1 fd77_1 fa77_2 fd77_2 fa77_3 fd77_3 bd77 ld79 st79 al79 fa79_0 fd79_0 fa79_1 fd79_1 fa79_2 fd79_2 fa79_3 fd79_3 fa79_4 fd79_4 fa79_5 fd79_5 bd79 ld80 st80 al80 le80 ld82 st82 al82 fa82_0 fd82_0 fa82_1 fd82_1 fa82_2 fd82_2 fa82_3 fd82_3 bd82 ld91 st91 al91 fa91_0 fd91_0 fa91_1 fd91_1 fa91_2 fd91_2 fa91_3 fd91_3 fa91_4 fd91_4 bd91 ld97 st97 al97 ld99 st99 al99 fa99_0 fd99_0 fa99_1 fd99_1 bd99 ld102 st102 al102 le102 ld112 st112 al112 ld113 st113 al113 ld115 st115 al115 fa115_0 fd115_0 fa115_1 fd115_1 fa115_2 fd115_2 fa115_3 fd115_3 bd115 ld122 st122 al122 le122 ld124 st124 al124 fa124_0 fd124_0 fa124_1 fd124_1 fa124_2 fd124_2 bd124 ld125 st125 al125 ld129 st129 al129 fa129_0 fd129_0 fa129_1 fd129_1 fa129_2 fd129_2 fa129_3 fd129_3 bd129 ld139 st139 al139 ld142 st142 al142 ld165 st165 al165 ld167 st167 al167 bd167 wlen9 le9 wlen25 wlen26 wlen41 wlen80 wlen102 wlen122 wcv2_37 wcv3_37 wcv5_37 wcv37_2 wcv37_3 wcv37_5 wcv102_9 wcv113_37 Tryd.underlying2 Tryd.underlying3 Tryd.underlying5 Tryd.underlying9 Tryd.underlying37 Tryd.underlying41 Tryd.underlying102 Tryd.underlying113 Tryd.underlying122
end
end Go.Proofs.YthfopcdammlmfaaDoor
namespace Go.Proofs.YthfopcdammlmfaaDoor
open Go.Tm
section
variable {E : Env} {h : Heap} {b o : Nat} {ev : Operand → Value}
theorem sz21 : asz Tryd.prog 21 = some 1 := by kernel_rfl
theorem ag21 : aagg Tryd.prog 21 = some false := by kernel_rfl
theorem zr21 : azero Tryd.prog 21 = some (.int .i32 0) := by kernel_rfl
theorem sz49 : asz Tryd.prog 49 = some 1 := by kernel_rfl
theorem ag49 : aagg Tryd.prog 49 = some false := by kernel_rfl
theorem zr49 : azero Tryd.prog 49 = some (.slice none 0 0) := by kernel_rfl
theorem sz51 : asz Tryd.prog 51 = some 6 := by kernel_rfl
theorem ag51 : aagg Tryd.prog 51 = some true := by kernel_rfl
theorem zr51 : azero Tryd.prog 51 = some (.agg #[.int .i64 0, .int .i64 0, .int .i64 0, .int .i64 0, .int .i64 0, .int .u64 0]) := by kernel_rfl
theorem sz150 : asz Tryd.prog 150 = some 1 := by kernel_rfl
theorem ag150 : aagg Tryd.prog 150 = some false := by kernel_rfl
theorem zr150 : azero Tryd.prog 150 = some (.slice none 0 0) := by kernel_rfl
theorem ld21 (hE : E.P = Tryd.prog) {a : Addr} : aload E h 21 (.pointer (some a)) = (acells E h a 1).bind fun l => l[0]? := by simp only [aload, hE, ag21]
theorem st21 (hE : E.P = Tryd.prog) {a : Addr} {v : Value} : astore E h 21 (.pointer (some a)) v = if 1 = (vcells v).length then awrite h a (vcells v) else none := by simp [astore, hE, sz21]
theorem al21 : aalloc Tryd.prog ev (.alloc 21) = some (fun b => .pointer (some ⟨b, 0, none⟩), .cells [.int .i32 0] 21 true) := by simp [aalloc, zr21, vcells]
theorem ld49 (hE : E.P = Tryd.prog) {a : Addr} : aload E h 49 (.pointer (some a)) = (acells E h a 1).bind fun l => l[0]? := by simp only [aload, hE, ag49]
theorem st49 (hE : E.P = Tryd.prog) {a : Addr} {v : Value} : astore E h 49 (.pointer (some a)) v = if 1 = (vcells v).length then awrite h a (vcells v) else none := by simp [astore, hE, sz49]
theorem al49 : aalloc Tryd.prog ev (.alloc 49) = some (fun b => .pointer (some ⟨b, 0, none⟩), .cells [.slice none 0 0] 49 true) := by simp [aalloc, zr49, vcells]
theorem ia49 {a : Addr} {len cap : Nat} {k : IntKind} {n : Int} (ha : a.spot = none) (h0 : 0 ≤ n) (h1 : n < len) : aindexAddr Tryd.prog 49 (.slice (some a) len cap) (.int k n) = some (.pointer (some ⟨a.block, a.off + n.toNat * 6, none⟩)) := by simp [aindexAddr, Tryd.underlying49, sz51, ha, addo, h0, h1]
theorem le49 {a : Option Addr} {len cap : Nat} : alen Tryd.prog 49 (.slice a len cap) = some (.int .i64 len) := by simp [alen, Tryd.underlying49]
theorem in51 : (Tryd.prog.info? 51).map (fun i => (i.size, i.bytes)) = some (6, 48) := by kernel_rfl
theorem mk49 {k k' : IntKind} {l c : Int} (h0 : 0 ≤ l) (h1 : l ≤ c) (h2 : 48 * c ≤ 281474976710656) (h3 : c ≤ 9223372036854775807) : amk Tryd.prog 49 (.int k l) (.int k' c) = some (fun b => .slice (some ⟨b, 0, none⟩) l.toNat c.toNat, .cells (arep c.toNat [.int .i64 0, .int .i64 0, .int .i64 0, .int .i64 0, .int .i64 0, .int .u64 0]) 51 true) := makeSlice_at (E := ⟨Tryd.prog, 0, fun _ => none, fun _ _ => none⟩) ⟨Tryd.underlying49, in51, ⟨_, zr51, rfl⟩, by decide⟩ ⟨_, zr51, rfl⟩ h0 h1 h2 h3
theorem bs49 {v : Value} (hl : (vcells v).length = 6) : abs1 Tryd.prog 49 1 [(0, v)] = some (fun b => .slice (some ⟨b, 0, none⟩) 1 1, .cells (vcells v) 51 true) := buildSlice_one (E := ⟨Tryd.prog, 0, fun _ => none, fun _ _ => none⟩) ⟨Tryd.underlying49, in51, ⟨_, zr51, rfl⟩, by decide⟩ hl (by decide)
theorem el49 (hE : E.P = Tryd.prog) : Elem E 49 51 6 48 := ⟨by rw [hE]; exact Tryd.underlying49, by rw [hE]; exact in51, ⟨_, by rw [hE]; exact zr51, rfl⟩, by decide⟩
theorem ld51 (hE : E.P = Tryd.prog) {a : Addr} : aload E h 51 (.pointer (some a)) = (acells E h a 6).map fun l => .agg l.toArray := by simp only [aload, hE, ag51, sz51]
theorem st51 (hE : E.P = Tryd.prog) {a : Addr} {v : Value} : astore E h 51 (.pointer (some a)) v = if 6 = (vcells v).length then awrite h a (vcells v) else none := by simp [astore, hE, sz51]
theorem al51 : aalloc Tryd.prog ev (.alloc 51) = some (fun b => .pointer (some ⟨b, 0, none⟩), .cells [.int .i64 0, .int .i64 0, .int .i64 0, .int .i64 0, .int .i64 0, .int .u64 0] 51 true) := by simp [aalloc, zr51, vcells]
theorem fa51_0 {a : Addr} (ha : a.spot = none) : afieldAddr Tryd.prog 51 (.pointer (some a)) 0 = some (.pointer (some ⟨a.block, a.off + 0, none⟩)) := by simp [afieldAddr, Tryd.underlying51, sz3, ha, addo]
theorem fd51_0 {c : Array Value} : afield Tryd.prog 51 (.agg c) 0 = c.toList[0]? := by simp [afield, apart, Tryd.underlying51, ag3]
theorem fa51_1 {a : Addr} (ha : a.spot = none) : afieldAddr Tryd.prog 51 (.pointer (some a)) 1 = some (.pointer (some ⟨a.block, a.off + 1, none⟩)) := by simp [afieldAddr, Tryd.underlying51, sz3, ha, addo]
theorem fd51_1 {c : Array Value} : afield Tryd.prog 51 (.agg c) 1 = c.toList[1]? := by simp [afield, apart, Tryd.underlying51, ag3]
theorem fa51_2 {a : Addr} (ha : a.spot = none) : afieldAddr Tryd.prog 51 (.pointer (some a)) 2 = some (.pointer (some ⟨a.block, a.off + 2, none⟩)) := by simp [afieldAddr, Tryd.underlying51, sz3, ha, addo]
theorem fd51_2 {c : Array Value} : afield Tryd.prog 51 (.agg c) 2 = c.toList[2]? := by simp [afield, apart, Tryd.underlying51, ag3]
theorem fa51_3 {a : Addr} (ha : a.spot = none) : afieldAddr Tryd.prog 51 (.pointer (some a)) 3 = some (.pointer (some ⟨a.block, a.off + 3, none⟩)) := by simp [afieldAddr, Tryd.underlying51, sz3, ha, addo]
theorem fd51_3 {c : Array Value} : afield Tryd.prog 51 (.agg c) 3 = c.toList[3]? := by simp [afield, apart, Tryd.underlying51, ag3]
theorem fa51_4 {a : Addr} (ha : a.spot = none) : afieldAddr Tryd.prog 51 (.pointer (some a)) 4 = some (.pointer (some ⟨a.block, a.off + 4, none⟩)) := by simp [afieldAddr, Tryd.underlying51, sz3, ha, addo]
theorem fd51_4 {c : Array Value} : afield Tryd.prog 51 (.agg c) 4 = c.toList[4]? := by simp [afield, apart, Tryd.underlying51, ag3]
theorem fa51_5 {a : Addr} (ha : a.spot = none) : afieldAddr Tryd.prog 51 (.pointer (some a)) 5 = some (.pointer (some ⟨a.block, a.off + 5, none⟩)) := by simp [afieldAddr, Tryd.underlying51, sz37, ha, addo]
theorem fd51_5 {c : Array Value} : afield Tryd.prog 51 (.agg c) 5 = c.toList[5]? := by simp [afield, apart, Tryd.underlying51, ag37]
theorem bd51 {ps : List (Nat × Value)} : abuild Tryd.prog 51 ps = (afill (fun i => ([(0, 1), (1, 1), (2, 1), (3, 1), (4, 1), (5, 1)] : List (Nat × Nat))[i]?) [.int .i64 0, .int .i64 0, .int .i64 0, .int .i64 0, .int .i64 0, .int .u64 0] ps).map fun l => .agg l.toArray := by simp [abuild, zr51, Tryd.underlying51, aplaces, sz3, sz37, vcells]
theorem ld150 (hE : E.P = Tryd.prog) {a : Addr} : aload E h 150 (.pointer (some a)) = (acells E h a 1).bind fun l => l[0]? := by simp only [aload, hE, ag150]
theorem st150 (hE : E.P = Tryd.prog) {a : Addr} {v : Value} : astore E h 150 (.pointer (some a)) v = if 1 = (vcells v).length then awrite h a (vcells v) else none := by simp [astore, hE, sz150]
theorem al150 : aalloc Tryd.prog ev (.alloc 150) = some (fun b => .pointer (some ⟨b, 0, none⟩), .cells [.slice none 0 0] 150 true) := by simp [aalloc, zr150, vcells]
theorem ia150 {a : Addr} {len cap : Nat} {k : IntKind} {n : Int} (ha : a.spot = none) (h0 : 0 ≤ n) (h1 : n < len) : aindexAddr Tryd.prog 150 (.slice (some a) len cap) (.int k n) = some (.pointer (some ⟨a.block, a.off + n.toNat * 1, none⟩)) := by simp [aindexAddr, Tryd.underlying150, sz21, ha, addo, h0, h1]
theorem le150 {a : Option Addr} {len cap : Nat} : alen Tryd.prog 150 (.slice a len cap) = some (.int .i64 len) := by simp [alen, Tryd.underlying150]
theorem in21 : (Tryd.prog.info? 21).map (fun i => (i.size, i.bytes)) = some (1, 4) := by kernel_rfl
theorem mk150 {k k' : IntKind} {l c : Int} (h0 : 0 ≤ l) (h1 : l ≤ c) (h2 : 4 * c ≤ 281474976710656) (h3 : c ≤ 9223372036854775807) : amk Tryd.prog 150 (.int k l) (.int k' c) = some (fun b => .slice (some ⟨b, 0, none⟩) l.toNat c.toNat, .cells (arep c.toNat [.int .i32 0]) 21 true) := makeSlice_at (E := ⟨Tryd.prog, 0, fun _ => none, fun _ _ => none⟩) ⟨Tryd.underlying150, in21, ⟨_, zr21, rfl⟩, by decide⟩ ⟨_, zr21, rfl⟩ h0 h1 h2 h3
theorem bs150 {v : Value} (hl : (vcells v).length = 1) : abs1 Tryd.prog 150 1 [(0, v)] = some (fun b => .slice (some ⟨b, 0, none⟩) 1 1, .cells (vcells v) 21 true) := buildSlice_one (E := ⟨Tryd.prog, 0, fun _ => none, fun _ _ => none⟩) ⟨Tryd.underlying150, in21, ⟨_, zr21, rfl⟩, by decide⟩ hl (by decide)
theorem el150 (hE : E.P = Tryd.prog) : Elem E 150 21 1 4 := ⟨by rw [hE]; exact Tryd.underlying150, by rw [hE]; exact in21, ⟨_, by rw [hE]; exact zr21, rfl⟩, by decide⟩
variable {O l : List Oper} {Q R : Cont} {tm : Tr Value} {d : Option Nat} {x : Operand}
theorem wlen49 (hE : E.P = Tryd.prog) : wop1 E (.call ⟨.builtin .len, #[x], #[49]⟩) d R tm h = kpure (alen Tryd.prog 49 (opd tm x)) d R tm h := by rw [wop_len (by rw [hE]; exact Tryd.underlying49) rfl, hE]
theorem wcv2_5 (hE : E.P = Tryd.prog) : wop1 E (.convert 2 5 x) d R tm h = kpure (aconv Tryd.prog 2 5 (opd tm x)) d R tm h := by rw [wop_convert (by rw [hE]; exact Tryd.underlying2) rfl, hE]
theorem wcv3_5 (hE : E.P = Tryd.prog) : wop1 E (.convert 3 5 x) d R tm h = kpure (aconv Tryd.prog 3 5 (opd tm x)) d R tm h := by rw [wop_convert (by rw [hE]; exact Tryd.underlying3) rfl, hE]
theorem wcv3_21 (hE : E.P = Tryd.prog) : wop1 E (.convert 3 21 x) d R tm h = kpure (aconv Tryd.prog 3 21 (opd tm x)) d R tm h := by rw [wop_convert (by rw [hE]; exact Tryd.underlying3) rfl, hE]
theorem wcv5_3 (hE : E.P = Tryd.prog) : wop1 E (.convert 5 3 x) d R tm h = kpure (aconv Tryd.prog 5 3 (opd tm x)) d R tm h := by rw [wop_convert (by rw [hE]; exact Tryd.underlying5) rfl, hE]
attribute [push_cast] ld21 st21 al21 ld49 st49 al49 le49 ld51 st51 al51 fa51_0 fd51_0 fa51_1 fd51_1 fa51_2 fd51_2 fa51_3 fd51_3 fa51_4 fd51_4 fa51_5 fd51_5 bd51 ld150 st150 al150 le150 wlen49 wcv2_5 wcv3_5 wcv3_21 wcv5_3 Tryd.underlying21
end
end Go.Proofs.YthfopcdammlmfaaDoor
