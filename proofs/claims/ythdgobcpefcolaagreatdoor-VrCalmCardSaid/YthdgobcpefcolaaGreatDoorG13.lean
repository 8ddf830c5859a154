/- The facts on the types of this program, one by one, each by the kernel. (Printed by a program of ours.) -/
import Derived.Test.YthdgobcpefcolaaGreatDoorG12
import Derived.Test.YthdgobcpefcolaaGreatDoorChecked
import Derived.Lib.Bytealg
set_option maxRecDepth 10000
set_option linter.all false
set_option linter.unusedSimpArgs false
set_option linter.unusedVariables false
namespace Go.Proofs.YthdgobcpefcolaaGreatDoor
open Go.Tm
/-- What is known of calls of the library. -/
def knownT : FuncId → List Value → Option Value := fun _ _ => none
/-- What is known of iterators. -/
def iterT : FuncId → List Value → Heap → Nat → Option (Option Value) := fun _ _ _ _ => none
structure EOk (E : Env) : Prop where
  P : E.P = Tryz.prog
  known : E.known = knownT
  iter : E.iter = iterT
section
variable {E : Env} {h : Heap} {b o : Nat} {ev : Operand → Value}
theorem sz2 : asz Tryz.prog 2 = some 1 := by kernel_rfl
theorem ag2 : aagg Tryz.prog 2 = some false := by kernel_rfl
theorem zr2 : azero Tryz.prog 2 = some (.int .i64 0) := by kernel_rfl
theorem sz3 : asz Tryz.prog 3 = some 1 := by kernel_rfl
theorem ag3 : aagg Tryz.prog 3 = some false := by kernel_rfl
theorem zr3 : azero Tryz.prog 3 = some (.int .i64 0) := by kernel_rfl
theorem sz4 : asz Tryz.prog 4 = some 1 := by kernel_rfl
theorem ag4 : aagg Tryz.prog 4 = some false := by kernel_rfl
theorem zr4 : azero Tryz.prog 4 = some (.bool false) := by kernel_rfl
theorem sz5 : asz Tryz.prog 5 = some 1 := by kernel_rfl
theorem ag5 : aagg Tryz.prog 5 = some false := by kernel_rfl
theorem zr5 : azero Tryz.prog 5 = some (.int .u8 0) := by kernel_rfl
theorem sz9 : asz Tryz.prog 9 = some 1 := by kernel_rfl
theorem ag9 : aagg Tryz.prog 9 = some false := by kernel_rfl
theorem zr9 : azero Tryz.prog 9 = some (.string .empty) := by kernel_rfl
theorem sz20 : asz Tryz.prog 20 = some 1 := by kernel_rfl
theorem ag20 : aagg Tryz.prog 20 = some false := by kernel_rfl
theorem zr20 : azero Tryz.prog 20 = some (.nilIface) := by kernel_rfl
theorem sz21 : asz Tryz.prog 21 = some 1 := by kernel_rfl
theorem ag21 : aagg Tryz.prog 21 = some false := by kernel_rfl
theorem zr21 : azero Tryz.prog 21 = some (.int .i32 0) := by kernel_rfl
theorem sz22 : asz Tryz.prog 22 = some 1 := by kernel_rfl
theorem ag22 : aagg Tryz.prog 22 = some false := by kernel_rfl
theorem zr22 : azero Tryz.prog 22 = some (.slice none 0 0) := by kernel_rfl
theorem sz24 : asz Tryz.prog 24 = some 1 := by kernel_rfl
theorem ag24 : aagg Tryz.prog 24 = some false := by kernel_rfl
theorem zr24 : azero Tryz.prog 24 = some (.slice none 0 0) := by kernel_rfl
theorem sz25 : asz Tryz.prog 25 = some 1 := by kernel_rfl
theorem ag25 : aagg Tryz.prog 25 = some false := by kernel_rfl
theorem zr25 : azero Tryz.prog 25 = some (.slice none 0 0) := by kernel_rfl
theorem sz26 : asz Tryz.prog 26 = some 1 := by kernel_rfl
theorem ag26 : aagg Tryz.prog 26 = some false := by kernel_rfl
theorem zr26 : azero Tryz.prog 26 = some (.slice none 0 0) := by kernel_rfl
theorem sz27 : asz Tryz.prog 27 = some 1 := by kernel_rfl
theorem ag27 : aagg Tryz.prog 27 = some false := by kernel_rfl
theorem zr27 : azero Tryz.prog 27 = some (.slice none 0 0) := by kernel_rfl
theorem sz29 : asz Tryz.prog 29 = some 5 := by kernel_rfl
theorem ag29 : aagg Tryz.prog 29 = some true := by kernel_rfl
theorem zr29 : azero Tryz.prog 29 = some (.agg #[.slice none 0 0, .slice none 0 0, .slice none 0 0, .slice none 0 0, .int .i64 0]) := by kernel_rfl
theorem sz34 : asz Tryz.prog 34 = some 3 := by kernel_rfl
theorem ag34 : aagg Tryz.prog 34 = some true := by kernel_rfl
theorem zr34 : azero Tryz.prog 34 = some (.agg #[.int .i64 0, .int .i64 0, .int .i64 0]) := by kernel_rfl
theorem sz36 : asz Tryz.prog 36 = some 1 := by kernel_rfl
theorem ag36 : aagg Tryz.prog 36 = some false := by kernel_rfl
theorem zr36 : azero Tryz.prog 36 = some (.slice none 0 0) := by kernel_rfl
theorem sz37 : asz Tryz.prog 37 = some 1 := by kernel_rfl
theorem ag37 : aagg Tryz.prog 37 = some false := by kernel_rfl
theorem zr37 : azero Tryz.prog 37 = some (.slice none 0 0) := by kernel_rfl
theorem sz39 : asz Tryz.prog 39 = some 1 := by kernel_rfl
theorem ag39 : aagg Tryz.prog 39 = some true := by kernel_rfl
theorem zr39 : azero Tryz.prog 39 = some (.agg #[.slice none 0 0]) := by kernel_rfl
theorem sz40 : asz Tryz.prog 40 = some 1 := by kernel_rfl
theorem ag40 : aagg Tryz.prog 40 = some false := by kernel_rfl
theorem zr40 : azero Tryz.prog 40 = some (.slice none 0 0) := by kernel_rfl
theorem sz42 : asz Tryz.prog 42 = some 4 := by kernel_rfl
theorem ag42 : aagg Tryz.prog 42 = some true := by kernel_rfl
theorem zr42 : azero Tryz.prog 42 = some (.agg #[.bool false, .slice none 0 0, .slice none 0 0, .slice none 0 0]) := by kernel_rfl
theorem sz44 : asz Tryz.prog 44 = some 4 := by kernel_rfl
theorem ag44 : aagg Tryz.prog 44 = some true := by kernel_rfl
theorem zr44 : azero Tryz.prog 44 = some (.agg #[.bool false, .slice none 0 0, .slice none 0 0, .slice none 0 0]) := by kernel_rfl
theorem sz45 : asz Tryz.prog 45 = some 1 := by kernel_rfl
theorem ag45 : aagg Tryz.prog 45 = some false := by kernel_rfl
theorem zr45 : azero Tryz.prog 45 = some (.pointer none) := by kernel_rfl
theorem sz46 : asz Tryz.prog 46 = some 1 := by kernel_rfl
theorem ag46 : aagg Tryz.prog 46 = some false := by kernel_rfl
theorem zr46 : azero Tryz.prog 46 = some (.pointer none) := by kernel_rfl
theorem sz48 : asz Tryz.prog 48 = some 18 := by kernel_rfl
theorem ag48 : aagg Tryz.prog 48 = some true := by kernel_rfl
theorem zr48 : azero Tryz.prog 48 = some (.agg #[.int .i64 0, .int .i64 0, .int .i64 0, .int .i64 0, .int .i64 0, .int .i64 0, .int .i64 0, .int .i64 0, .slice none 0 0, .bool false, .slice none 0 0, .slice none 0 0, .slice none 0 0, .slice none 0 0, .slice none 0 0, .bool false, .slice none 0 0, .slice none 0 0]) := by kernel_rfl
theorem sz50 : asz Tryz.prog 50 = some 20 := by kernel_rfl
theorem ag50 : aagg Tryz.prog 50 = some true := by kernel_rfl
theorem zr50 : azero Tryz.prog 50 = some (.agg #[.pointer none, .pointer none, .int .i64 0, .int .i64 0, .int .i64 0, .int .i64 0, .int .i64 0, .int .i64 0, .int .i64 0, .int .i64 0, .slice none 0 0, .bool false, .slice none 0 0, .slice none 0 0, .slice none 0 0, .slice none 0 0, .slice none 0 0, .bool false, .slice none 0 0, .slice none 0 0]) := by kernel_rfl
theorem sz53 : asz Tryz.prog 53 = some 1 := by kernel_rfl
theorem ag53 : aagg Tryz.prog 53 = some false := by kernel_rfl
theorem zr53 : azero Tryz.prog 53 = some (.slice none 0 0) := by kernel_rfl
theorem sz54 : asz Tryz.prog 54 = some 4 := by kernel_rfl
theorem ag54 : aagg Tryz.prog 54 = some true := by kernel_rfl
theorem zr54 : azero Tryz.prog 54 = some (.agg #[.int .i64 0, .int .i64 0, .int .i64 0, .int .i64 0]) := by kernel_rfl
theorem sz56 : asz Tryz.prog 56 = some 3 := by kernel_rfl
theorem ag56 : aagg Tryz.prog 56 = some true := by kernel_rfl
theorem zr56 : azero Tryz.prog 56 = some (.agg #[.int .i64 0, .int .i64 0, .string .empty]) := by kernel_rfl
theorem sz57 : asz Tryz.prog 57 = some 1 := by kernel_rfl
theorem ag57 : aagg Tryz.prog 57 = some false := by kernel_rfl
theorem zr57 : azero Tryz.prog 57 = some (.int .i64 0) := by kernel_rfl
theorem sz58 : asz Tryz.prog 58 = some 1 := by kernel_rfl
theorem ag58 : aagg Tryz.prog 58 = some false := by kernel_rfl
theorem zr58 : azero Tryz.prog 58 = some (.slice none 0 0) := by kernel_rfl
theorem sz60 : asz Tryz.prog 60 = some 3 := by kernel_rfl
theorem ag60 : aagg Tryz.prog 60 = some true := by kernel_rfl
theorem zr60 : azero Tryz.prog 60 = some (.agg #[.int .i64 0, .int .i64 0, .slice none 0 0]) := by kernel_rfl
theorem sz62 : asz Tryz.prog 62 = some 17 := by kernel_rfl
theorem ag62 : aagg Tryz.prog 62 = some true := by kernel_rfl
theorem zr62 : azero Tryz.prog 62 = some (.agg #[.int .i64 0, .int .i64 0, .int .i64 0, .int .i64 0, .int .i64 0, .int .i64 0, .int .i64 0, .int .i64 0, .int .i64 0, .slice none 0 0, .slice none 0 0, .int .i64 0, .int .i64 0, .string .empty, .int .i64 0, .int .i64 0, .slice none 0 0]) := by kernel_rfl
theorem sz66 : asz Tryz.prog 66 = some 19 := by kernel_rfl
theorem ag66 : aagg Tryz.prog 66 = some true := by kernel_rfl
theorem zr66 : azero Tryz.prog 66 = some (.agg #[.int .i64 0, .int .i64 0, .int .i64 0, .int .i64 0, .int .i64 0, .int .i64 0, .int .i64 0, .int .i64 0, .int .i64 0, .int .i64 0, .int .i64 0, .slice none 0 0, .slice none 0 0, .int .i64 0, .int .i64 0, .string .empty, .int .i64 0, .int .i64 0, .slice none 0 0]) := by kernel_rfl
theorem sz75 : asz Tryz.prog 75 = some 1 := by kernel_rfl
theorem ag75 : aagg Tryz.prog 75 = some false := by kernel_rfl
theorem zr75 : azero Tryz.prog 75 = some (.nilIface) := by kernel_rfl
theorem sz76 : asz Tryz.prog 76 = some 1 := by kernel_rfl
theorem ag76 : aagg Tryz.prog 76 = some false := by kernel_rfl
theorem zr76 : azero Tryz.prog 76 = some (.map none) := by kernel_rfl
theorem sz78 : asz Tryz.prog 78 = some 16 := by kernel_rfl
theorem ag78 : aagg Tryz.prog 78 = some true := by kernel_rfl
theorem zr78 : azero Tryz.prog 78 = some (.agg #[.int .i64 0, .int .i64 0, .nilIface, .int .i64 0, .int .i64 0, .int .i64 0, .int .i64 0, .int .i64 0, .int .i64 0, .int .i64 0, .slice none 0 0, .slice none 0 0, .slice none 0 0, .bool false, .map none, .slice none 0 0]) := by kernel_rfl
theorem sz88 : asz Tryz.prog 88 = some 1 := by kernel_rfl
theorem ag88 : aagg Tryz.prog 88 = some false := by kernel_rfl
theorem zr88 : azero Tryz.prog 88 = some (.nilFunc) := by kernel_rfl
theorem sz90 : asz Tryz.prog 90 = some 2 := by kernel_rfl
theorem ag90 : aagg Tryz.prog 90 = some true := by kernel_rfl
theorem zr90 : azero Tryz.prog 90 = some (.agg #[.nilFunc, .bool false]) := by kernel_rfl
theorem sz92 : asz Tryz.prog 92 = some 1 := by kernel_rfl
theorem ag92 : aagg Tryz.prog 92 = some false := by kernel_rfl
theorem zr92 : azero Tryz.prog 92 = some (.map none) := by kernel_rfl
theorem sz121 : asz Tryz.prog 121 = some 5 := by kernel_rfl
theorem ag121 : aagg Tryz.prog 121 = some true := by kernel_rfl
theorem zr121 : azero Tryz.prog 121 = some (.agg #[.int .i64 0, .int .i64 0, .int .i64 0, .int .i64 0, .slice none 0 0]) := by kernel_rfl
theorem sz131 : asz Tryz.prog 131 = some 1 := by kernel_rfl
theorem ag131 : aagg Tryz.prog 131 = some false := by kernel_rfl
theorem zr131 : azero Tryz.prog 131 = some (.nilFunc) := by kernel_rfl
theorem sz138 : asz Tryz.prog 138 = some 1 := by kernel_rfl
theorem ag138 : aagg Tryz.prog 138 = some false := by kernel_rfl
theorem zr138 : azero Tryz.prog 138 = some (.nilFunc) := by kernel_rfl
theorem sz139 : asz Tryz.prog 139 = some 1 := by kernel_rfl
theorem ag139 : aagg Tryz.prog 139 = some false := by kernel_rfl
theorem zr139 : azero Tryz.prog 139 = some (.slice none 0 0) := by kernel_rfl
theorem sz141 : asz Tryz.prog 141 = some 5 := by kernel_rfl
theorem ag141 : aagg Tryz.prog 141 = some true := by kernel_rfl
theorem zr141 : azero Tryz.prog 141 = some (.agg #[.int .i64 0, .int .i64 0, .string .empty, .slice none 0 0, .slice none 0 0]) := by kernel_rfl
theorem sz143 : asz Tryz.prog 143 = some 6 := by kernel_rfl
theorem ag143 : aagg Tryz.prog 143 = some true := by kernel_rfl
theorem zr143 : azero Tryz.prog 143 = some (.agg #[.string .empty, .int .i64 0, .int .i64 0, .string .empty, .slice none 0 0, .slice none 0 0]) := by kernel_rfl
theorem sz151 : asz Tryz.prog 151 = some 1 := by kernel_rfl
theorem ag151 : aagg Tryz.prog 151 = some false := by kernel_rfl
theorem zr151 : azero Tryz.prog 151 = some (.int .u64 0) := by kernel_rfl
theorem sz152 : asz Tryz.prog 152 = some 1 := by kernel_rfl
theorem ag152 : aagg Tryz.prog 152 = some false := by kernel_rfl
theorem zr152 : azero Tryz.prog 152 = some (.int .u32 0) := by kernel_rfl
theorem sz157 : asz Tryz.prog 157 = some 1 := by kernel_rfl
theorem ag157 : aagg Tryz.prog 157 = some false := by kernel_rfl
theorem zr157 : azero Tryz.prog 157 = some (.int .u64 0) := by kernel_rfl
theorem sz164 : asz Tryz.prog 164 = some 3 := by kernel_rfl
theorem ag164 : aagg Tryz.prog 164 = some true := by kernel_rfl
theorem zr164 : azero Tryz.prog 164 = some (.agg #[.int .u64 0, .int .u64 0, .int .u64 0]) := by kernel_rfl
theorem sz168 : asz Tryz.prog 168 = some 1 := by kernel_rfl
theorem ag168 : aagg Tryz.prog 168 = some false := by kernel_rfl
theorem zr168 : azero Tryz.prog 168 = some (.int .i64 0) := by kernel_rfl
theorem sz183 : asz Tryz.prog 183 = some 1 := by kernel_rfl
theorem ag183 : aagg Tryz.prog 183 = some false := by kernel_rfl
theorem zr183 : azero Tryz.prog 183 = some (.slice none 0 0) := by kernel_rfl
theorem sz204 : asz Tryz.prog 204 = some 3 := by kernel_rfl
theorem ag204 : aagg Tryz.prog 204 = some true := by kernel_rfl
theorem zr204 : azero Tryz.prog 204 = some (.agg #[.string .empty, .slice none 0 0, .slice none 0 0]) := by kernel_rfl
theorem ld2 (hE : E.P = Tryz.prog) {a : Addr} : aload E h 2 (.pointer (some a)) = (acells E h a 1).bind fun l => l[0]? := by simp only [aload, hE, ag2]
theorem st2 (hE : E.P = Tryz.prog) {a : Addr} {v : Value} : astore E h 2 (.pointer (some a)) v = if 1 = (vcells v).length then awrite h a (vcells v) else none := by simp [astore, hE, sz2]
theorem al2 : aalloc Tryz.prog ev (.alloc 2) = some (fun b => .pointer (some ⟨b, 0, none⟩), .cells [.int .i64 0] 2 true) := by simp [aalloc, zr2, vcells]
theorem ld3 (hE : E.P = Tryz.prog) {a : Addr} : aload E h 3 (.pointer (some a)) = (acells E h a 1).bind fun l => l[0]? := by simp only [aload, hE, ag3]
theorem st3 (hE : E.P = Tryz.prog) {a : Addr} {v : Value} : astore E h 3 (.pointer (some a)) v = if 1 = (vcells v).length then awrite h a (vcells v) else none := by simp [astore, hE, sz3]
theorem al3 : aalloc Tryz.prog ev (.alloc 3) = some (fun b => .pointer (some ⟨b, 0, none⟩), .cells [.int .i64 0] 3 true) := by simp [aalloc, zr3, vcells]
theorem ld4 (hE : E.P = Tryz.prog) {a : Addr} : aload E h 4 (.pointer (some a)) = (acells E h a 1).bind fun l => l[0]? := by simp only [aload, hE, ag4]
theorem st4 (hE : E.P = Tryz.prog) {a : Addr} {v : Value} : astore E h 4 (.pointer (some a)) v = if 1 = (vcells v).length then awrite h a (vcells v) else none := by simp [astore, hE, sz4]
theorem al4 : aalloc Tryz.prog ev (.alloc 4) = some (fun b => .pointer (some ⟨b, 0, none⟩), .cells [.bool false] 4 true) := by simp [aalloc, zr4, vcells]
theorem ld5 (hE : E.P = Tryz.prog) {a : Addr} : aload E h 5 (.pointer (some a)) = (acells E h a 1).bind fun l => l[0]? := by simp only [aload, hE, ag5]
theorem st5 (hE : E.P = Tryz.prog) {a : Addr} {v : Value} : astore E h 5 (.pointer (some a)) v = if 1 = (vcells v).length then awrite h a (vcells v) else none := by simp [astore, hE, sz5]
theorem al5 : aalloc Tryz.prog ev (.alloc 5) = some (fun b => .pointer (some ⟨b, 0, none⟩), .cells [.int .u8 0] 5 true) := by simp [aalloc, zr5, vcells]
theorem ld9 (hE : E.P = Tryz.prog) {a : Addr} : aload E h 9 (.pointer (some a)) = (acells E h a 1).bind fun l => l[0]? := by simp only [aload, hE, ag9]
theorem st9 (hE : E.P = Tryz.prog) {a : Addr} {v : Value} : astore E h 9 (.pointer (some a)) v = if 1 = (vcells v).length then awrite h a (vcells v) else none := by simp [astore, hE, sz9]
theorem al9 : aalloc Tryz.prog ev (.alloc 9) = some (fun b => .pointer (some ⟨b, 0, none⟩), .cells [.string .empty] 9 true) := by simp [aalloc, zr9, vcells]
theorem ld20 (hE : E.P = Tryz.prog) {a : Addr} : aload E h 20 (.pointer (some a)) = (acells E h a 1).bind fun l => l[0]? := by simp only [aload, hE, ag20]
theorem st20 (hE : E.P = Tryz.prog) {a : Addr} {v : Value} : astore E h 20 (.pointer (some a)) v = if 1 = (vcells v).length then awrite h a (vcells v) else none := by simp [astore, hE, sz20]
theorem al20 : aalloc Tryz.prog ev (.alloc 20) = some (fun b => .pointer (some ⟨b, 0, none⟩), .cells [.nilIface] 20 true) := by simp [aalloc, zr20, vcells]
theorem ld21 (hE : E.P = Tryz.prog) {a : Addr} : aload E h 21 (.pointer (some a)) = (acells E h a 1).bind fun l => l[0]? := by simp only [aload, hE, ag21]
theorem st21 (hE : E.P = Tryz.prog) {a : Addr} {v : Value} : astore E h 21 (.pointer (some a)) v = if 1 = (vcells v).length then awrite h a (vcells v) else none := by simp [astore, hE, sz21]
theorem al21 : aalloc Tryz.prog ev (.alloc 21) = some (fun b => .pointer (some ⟨b, 0, none⟩), .cells [.int .i32 0] 21 true) := by simp [aalloc, zr21, vcells]
theorem ld22 (hE : E.P = Tryz.prog) {a : Addr} : aload E h 22 (.pointer (some a)) = (acells E h a 1).bind fun l => l[0]? := by simp only [aload, hE, ag22]
theorem st22 (hE : E.P = Tryz.prog) {a : Addr} {v : Value} : astore E h 22 (.pointer (some a)) v = if 1 = (vcells v).length then awrite h a (vcells v) else none := by simp [astore, hE, sz22]
theorem al22 : aalloc Tryz.prog ev (.alloc 22) = some (fun b => .pointer (some ⟨b, 0, none⟩), .cells [.slice none 0 0] 22 true) := by simp [aalloc, zr22, vcells]
theorem ia22 {a : Addr} {len cap : Nat} {k : IntKind} {n : Int} (ha : a.spot = none) (h0 : 0 ≤ n) (h1 : n < len) : aindexAddr Tryz.prog 22 (.slice (some a) len cap) (.int k n) = some (.pointer (some ⟨a.block, a.off + n.toNat * 3, none⟩)) := by simp [aindexAddr, Tryz.underlying22, sz34, ha, addo, h0, h1]
theorem le22 {a : Option Addr} {len cap : Nat} : alen Tryz.prog 22 (.slice a len cap) = some (.int .i64 len) := by simp [alen, Tryz.underlying22]
theorem in34 : (Tryz.prog.info? 34).map (fun i => (i.size, i.bytes)) = some (3, 24) := by kernel_rfl
theorem mk22 {k k' : IntKind} {l c : Int} (h0 : 0 ≤ l) (h1 : l ≤ c) (h2 : 24 * c ≤ 281474976710656) (h3 : c ≤ 9223372036854775807) : amk Tryz.prog 22 (.int k l) (.int k' c) = some (fun b => .slice (some ⟨b, 0, none⟩) l.toNat c.toNat, .cells (arep c.toNat [.int .i64 0, .int .i64 0, .int .i64 0]) 34 true) := makeSlice_at (E := { P := Tryz.prog, base := 0, ro := fun _ => none }) ⟨Tryz.underlying22, in34, ⟨_, zr34, rfl⟩, by decide⟩ ⟨_, zr34, rfl⟩ h0 h1 h2 h3
theorem bs22 {v : Value} (hl : (vcells v).length = 3) : abs1 Tryz.prog 22 1 [(0, v)] = some (fun b => .slice (some ⟨b, 0, none⟩) 1 1, .cells (vcells v) 34 true) := buildSlice_one (E := { P := Tryz.prog, base := 0, ro := fun _ => none }) ⟨Tryz.underlying22, in34, ⟨_, zr34, rfl⟩, by decide⟩ hl (by decide)
theorem el22 (hE : E.P = Tryz.prog) : Elem E 22 34 3 24 := ⟨by rw [hE]; exact Tryz.underlying22, by rw [hE]; exact in34, ⟨_, by rw [hE]; exact zr34, rfl⟩, by decide⟩
theorem ld24 (hE : E.P = Tryz.prog) {a : Addr} : aload E h 24 (.pointer (some a)) = (acells E h a 1).bind fun l => l[0]? := by simp only [aload, hE, ag24]
theorem st24 (hE : E.P = Tryz.prog) {a : Addr} {v : Value} : astore E h 24 (.pointer (some a)) v = if 1 = (vcells v).length then awrite h a (vcells v) else none := by simp [astore, hE, sz24]
theorem al24 : aalloc Tryz.prog ev (.alloc 24) = some (fun b => .pointer (some ⟨b, 0, none⟩), .cells [.slice none 0 0] 24 true) := by simp [aalloc, zr24, vcells]
theorem ia24 {a : Addr} {len cap : Nat} {k : IntKind} {n : Int} (ha : a.spot = none) (h0 : 0 ≤ n) (h1 : n < len) : aindexAddr Tryz.prog 24 (.slice (some a) len cap) (.int k n) = some (.pointer (some ⟨a.block, a.off + n.toNat * 20, none⟩)) := by simp [aindexAddr, Tryz.underlying24, sz50, ha, addo, h0, h1]
theorem le24 {a : Option Addr} {len cap : Nat} : alen Tryz.prog 24 (.slice a len cap) = some (.int .i64 len) := by simp [alen, Tryz.underlying24]
theorem in50 : (Tryz.prog.info? 50).map (fun i => (i.size, i.bytes)) = some (20, 288) := by kernel_rfl
theorem mk24 {k k' : IntKind} {l c : Int} (h0 : 0 ≤ l) (h1 : l ≤ c) (h2 : 288 * c ≤ 281474976710656) (h3 : c ≤ 9223372036854775807) : amk Tryz.prog 24 (.int k l) (.int k' c) = some (fun b => .slice (some ⟨b, 0, none⟩) l.toNat c.toNat, .cells (arep c.toNat [.pointer none, .pointer none, .int .i64 0, .int .i64 0, .int .i64 0, .int .i64 0, .int .i64 0, .int .i64 0, .int .i64 0, .int .i64 0, .slice none 0 0, .bool false, .slice none 0 0, .slice none 0 0, .slice none 0 0, .slice none 0 0, .slice none 0 0, .bool false, .slice none 0 0, .slice none 0 0]) 50 true) := makeSlice_at (E := { P := Tryz.prog, base := 0, ro := fun _ => none }) ⟨Tryz.underlying24, in50, ⟨_, zr50, rfl⟩, by decide⟩ ⟨_, zr50, rfl⟩ h0 h1 h2 h3
theorem bs24 {v : Value} (hl : (vcells v).length = 20) : abs1 Tryz.prog 24 1 [(0, v)] = some (fun b => .slice (some ⟨b, 0, none⟩) 1 1, .cells (vcells v) 50 true) := buildSlice_one (E := { P := Tryz.prog, base := 0, ro := fun _ => none }) ⟨Tryz.underlying24, in50, ⟨_, zr50, rfl⟩, by decide⟩ hl (by decide)
theorem el24 (hE : E.P = Tryz.prog) : Elem E 24 50 20 288 := ⟨by rw [hE]; exact Tryz.underlying24, by rw [hE]; exact in50, ⟨_, by rw [hE]; exact zr50, rfl⟩, by decide⟩
theorem ld25 (hE : E.P = Tryz.prog) {a : Addr} : aload E h 25 (.pointer (some a)) = (acells E h a 1).bind fun l => l[0]? := by simp only [aload, hE, ag25]
theorem st25 (hE : E.P = Tryz.prog) {a : Addr} {v : Value} : astore E h 25 (.pointer (some a)) v = if 1 = (vcells v).length then awrite h a (vcells v) else none := by simp [astore, hE, sz25]
theorem al25 : aalloc Tryz.prog ev (.alloc 25) = some (fun b => .pointer (some ⟨b, 0, none⟩), .cells [.slice none 0 0] 25 true) := by simp [aalloc, zr25, vcells]
theorem ia25 {a : Addr} {len cap : Nat} {k : IntKind} {n : Int} (ha : a.spot = none) (h0 : 0 ≤ n) (h1 : n < len) : aindexAddr Tryz.prog 25 (.slice (some a) len cap) (.int k n) = some (.pointer (some ⟨a.block, a.off + n.toNat * 1, none⟩)) := by simp [aindexAddr, Tryz.underlying25, sz4, ha, addo, h0, h1]
theorem le25 {a : Option Addr} {len cap : Nat} : alen Tryz.prog 25 (.slice a len cap) = some (.int .i64 len) := by simp [alen, Tryz.underlying25]
theorem in4 : (Tryz.prog.info? 4).map (fun i => (i.size, i.bytes)) = some (1, 1) := by kernel_rfl
theorem mk25 {k k' : IntKind} {l c : Int} (h0 : 0 ≤ l) (h1 : l ≤ c) (h2 : 1 * c ≤ 281474976710656) (h3 : c ≤ 9223372036854775807) : amk Tryz.prog 25 (.int k l) (.int k' c) = some (fun b => .slice (some ⟨b, 0, none⟩) l.toNat c.toNat, .cells (arep c.toNat [.bool false]) 4 true) := makeSlice_at (E := { P := Tryz.prog, base := 0, ro := fun _ => none }) ⟨Tryz.underlying25, in4, ⟨_, zr4, rfl⟩, by decide⟩ ⟨_, zr4, rfl⟩ h0 h1 h2 h3
theorem bs25 {v : Value} (hl : (vcells v).length = 1) : abs1 Tryz.prog 25 1 [(0, v)] = some (fun b => .slice (some ⟨b, 0, none⟩) 1 1, .cells (vcells v) 4 true) := buildSlice_one (E := { P := Tryz.prog, base := 0, ro := fun _ => none }) ⟨Tryz.underlying25, in4, ⟨_, zr4, rfl⟩, by decide⟩ hl (by decide)
theorem el25 (hE : E.P = Tryz.prog) : Elem E 25 4 1 1 := ⟨by rw [hE]; exact Tryz.underlying25, by rw [hE]; exact in4, ⟨_, by rw [hE]; exact zr4, rfl⟩, by decide⟩
theorem ld26 (hE : E.P = Tryz.prog) {a : Addr} : aload E h 26 (.pointer (some a)) = (acells E h a 1).bind fun l => l[0]? := by simp only [aload, hE, ag26]
theorem st26 (hE : E.P = Tryz.prog) {a : Addr} {v : Value} : astore E h 26 (.pointer (some a)) v = if 1 = (vcells v).length then awrite h a (vcells v) else none := by simp [astore, hE, sz26]
theorem al26 : aalloc Tryz.prog ev (.alloc 26) = some (fun b => .pointer (some ⟨b, 0, none⟩), .cells [.slice none 0 0] 26 true) := by simp [aalloc, zr26, vcells]
theorem ia26 {a : Addr} {len cap : Nat} {k : IntKind} {n : Int} (ha : a.spot = none) (h0 : 0 ≤ n) (h1 : n < len) : aindexAddr Tryz.prog 26 (.slice (some a) len cap) (.int k n) = some (.pointer (some ⟨a.block, a.off + n.toNat * 17, none⟩)) := by simp [aindexAddr, Tryz.underlying26, sz62, ha, addo, h0, h1]
theorem le26 {a : Option Addr} {len cap : Nat} : alen Tryz.prog 26 (.slice a len cap) = some (.int .i64 len) := by simp [alen, Tryz.underlying26]
theorem in62 : (Tryz.prog.info? 62).map (fun i => (i.size, i.bytes)) = some (17, 192) := by kernel_rfl
theorem mk26 {k k' : IntKind} {l c : Int} (h0 : 0 ≤ l) (h1 : l ≤ c) (h2 : 192 * c ≤ 281474976710656) (h3 : c ≤ 9223372036854775807) : amk Tryz.prog 26 (.int k l) (.int k' c) = some (fun b => .slice (some ⟨b, 0, none⟩) l.toNat c.toNat, .cells (arep c.toNat [.int .i64 0, .int .i64 0, .int .i64 0, .int .i64 0, .int .i64 0, .int .i64 0, .int .i64 0, .int .i64 0, .int .i64 0, .slice none 0 0, .slice none 0 0, .int .i64 0, .int .i64 0, .string .empty, .int .i64 0, .int .i64 0, .slice none 0 0]) 62 true) := makeSlice_at (E := { P := Tryz.prog, base := 0, ro := fun _ => none }) ⟨Tryz.underlying26, in62, ⟨_, zr62, rfl⟩, by decide⟩ ⟨_, zr62, rfl⟩ h0 h1 h2 h3
theorem bs26 {v : Value} (hl : (vcells v).length = 17) : abs1 Tryz.prog 26 1 [(0, v)] = some (fun b => .slice (some ⟨b, 0, none⟩) 1 1, .cells (vcells v) 62 true) := buildSlice_one (E := { P := Tryz.prog, base := 0, ro := fun _ => none }) ⟨Tryz.underlying26, in62, ⟨_, zr62, rfl⟩, by decide⟩ hl (by decide)
theorem el26 (hE : E.P = Tryz.prog) : Elem E 26 62 17 192 := ⟨by rw [hE]; exact Tryz.underlying26, by rw [hE]; exact in62, ⟨_, by rw [hE]; exact zr62, rfl⟩, by decide⟩
theorem ld27 (hE : E.P = Tryz.prog) {a : Addr} : aload E h 27 (.pointer (some a)) = (acells E h a 1).bind fun l => l[0]? := by simp only [aload, hE, ag27]
theorem st27 (hE : E.P = Tryz.prog) {a : Addr} {v : Value} : astore E h 27 (.pointer (some a)) v = if 1 = (vcells v).length then awrite h a (vcells v) else none := by simp [astore, hE, sz27]
theorem al27 : aalloc Tryz.prog ev (.alloc 27) = some (fun b => .pointer (some ⟨b, 0, none⟩), .cells [.slice none 0 0] 27 true) := by simp [aalloc, zr27, vcells]
theorem ia27 {a : Addr} {len cap : Nat} {k : IntKind} {n : Int} (ha : a.spot = none) (h0 : 0 ≤ n) (h1 : n < len) : aindexAddr Tryz.prog 27 (.slice (some a) len cap) (.int k n) = some (.pointer (some ⟨a.block, a.off + n.toNat * 1, none⟩)) := by simp [aindexAddr, Tryz.underlying27, sz3, ha, addo, h0, h1]
theorem le27 {a : Option Addr} {len cap : Nat} : alen Tryz.prog 27 (.slice a len cap) = some (.int .i64 len) := by simp [alen, Tryz.underlying27]
theorem in3 : (Tryz.prog.info? 3).map (fun i => (i.size, i.bytes)) = some (1, 8) := by kernel_rfl
theorem mk27 {k k' : IntKind} {l c : Int} (h0 : 0 ≤ l) (h1 : l ≤ c) (h2 : 8 * c ≤ 281474976710656) (h3 : c ≤ 9223372036854775807) : amk Tryz.prog 27 (.int k l) (.int k' c) = some (fun b => .slice (some ⟨b, 0, none⟩) l.toNat c.toNat, .cells (arep c.toNat [.int .i64 0]) 3 true) := makeSlice_at (E := { P := Tryz.prog, base := 0, ro := fun _ => none }) ⟨Tryz.underlying27, in3, ⟨_, zr3, rfl⟩, by decide⟩ ⟨_, zr3, rfl⟩ h0 h1 h2 h3
theorem bs27 {v : Value} (hl : (vcells v).length = 1) : abs1 Tryz.prog 27 1 [(0, v)] = some (fun b => .slice (some ⟨b, 0, none⟩) 1 1, .cells (vcells v) 3 true) := buildSlice_one (E := { P := Tryz.prog, base := 0, ro := fun _ => none }) ⟨Tryz.underlying27, in3, ⟨_, zr3, rfl⟩, by decide⟩ hl (by decide)
theorem el27 (hE : E.P = Tryz.prog) : Elem E 27 3 1 8 := ⟨by rw [hE]; exact Tryz.underlying27, by rw [hE]; exact in3, ⟨_, by rw [hE]; exact zr3, rfl⟩, by decide⟩
theorem ld29 (hE : E.P = Tryz.prog) {a : Addr} : aload E h 29 (.pointer (some a)) = (acells E h a 5).map fun l => .agg l.toArray := by simp only [aload, hE, ag29, sz29]
theorem st29 (hE : E.P = Tryz.prog) {a : Addr} {v : Value} : astore E h 29 (.pointer (some a)) v = if 5 = (vcells v).length then awrite h a (vcells v) else none := by simp [astore, hE, sz29]
theorem al29 : aalloc Tryz.prog ev (.alloc 29) = some (fun b => .pointer (some ⟨b, 0, none⟩), .cells [.slice none 0 0, .slice none 0 0, .slice none 0 0, .slice none 0 0, .int .i64 0] 29 true) := by simp [aalloc, zr29, vcells]
theorem fa29_0 {a : Addr} (ha : a.spot = none) : afieldAddr Tryz.prog 29 (.pointer (some a)) 0 = some (.pointer (some ⟨a.block, a.off + 0, none⟩)) := by simp [afieldAddr, Tryz.underlying29, sz24, ha, addo]
theorem fd29_0 {c : Array Value} : afield Tryz.prog 29 (.agg c) 0 = c.toList[0]? := by simp [afield, apart, Tryz.underlying29, ag24]
theorem fa29_1 {a : Addr} (ha : a.spot = none) : afieldAddr Tryz.prog 29 (.pointer (some a)) 1 = some (.pointer (some ⟨a.block, a.off + 1, none⟩)) := by simp [afieldAddr, Tryz.underlying29, sz25, ha, addo]
theorem fd29_1 {c : Array Value} : afield Tryz.prog 29 (.agg c) 1 = c.toList[1]? := by simp [afield, apart, Tryz.underlying29, ag25]
theorem fa29_2 {a : Addr} (ha : a.spot = none) : afieldAddr Tryz.prog 29 (.pointer (some a)) 2 = some (.pointer (some ⟨a.block, a.off + 2, none⟩)) := by simp [afieldAddr, Tryz.underlying29, sz26, ha, addo]
theorem fd29_2 {c : Array Value} : afield Tryz.prog 29 (.agg c) 2 = c.toList[2]? := by simp [afield, apart, Tryz.underlying29, ag26]
theorem fa29_3 {a : Addr} (ha : a.spot = none) : afieldAddr Tryz.prog 29 (.pointer (some a)) 3 = some (.pointer (some ⟨a.block, a.off + 3, none⟩)) := by simp [afieldAddr, Tryz.underlying29, sz27, ha, addo]
theorem fd29_3 {c : Array Value} : afield Tryz.prog 29 (.agg c) 3 = c.toList[3]? := by simp [afield, apart, Tryz.underlying29, ag27]
theorem fa29_4 {a : Addr} (ha : a.spot = none) : afieldAddr Tryz.prog 29 (.pointer (some a)) 4 = some (.pointer (some ⟨a.block, a.off + 4, none⟩)) := by simp [afieldAddr, Tryz.underlying29, sz3, ha, addo]
theorem fd29_4 {c : Array Value} : afield Tryz.prog 29 (.agg c) 4 = c.toList[4]? := by simp [afield, apart, Tryz.underlying29, ag3]
theorem bd29 {ps : List (Nat × Value)} : abuild Tryz.prog 29 ps = (afill (fun i => ([(0, 1), (1, 1), (2, 1), (3, 1), (4, 1)] : List (Nat × Nat))[i]?) [.slice none 0 0, .slice none 0 0, .slice none 0 0, .slice none 0 0, .int .i64 0] ps).map fun l => .agg l.toArray := by simp [abuild, zr29, Tryz.underlying29, aplaces, sz24, sz25, sz26, sz27, sz3, vcells]
theorem ld34 (hE : E.P = Tryz.prog) {a : Addr} : aload E h 34 (.pointer (some a)) = (acells E h a 3).map fun l => .agg l.toArray := by simp only [aload, hE, ag34, sz34]
theorem st34 (hE : E.P = Tryz.prog) {a : Addr} {v : Value} : astore E h 34 (.pointer (some a)) v = if 3 = (vcells v).length then awrite h a (vcells v) else none := by simp [astore, hE, sz34]
theorem al34 : aalloc Tryz.prog ev (.alloc 34) = some (fun b => .pointer (some ⟨b, 0, none⟩), .cells [.int .i64 0, .int .i64 0, .int .i64 0] 34 true) := by simp [aalloc, zr34, vcells]
theorem fa34_0 {a : Addr} (ha : a.spot = none) : afieldAddr Tryz.prog 34 (.pointer (some a)) 0 = some (.pointer (some ⟨a.block, a.off + 0, none⟩)) := by simp [afieldAddr, Tryz.underlying34, sz3, ha, addo]
theorem fd34_0 {c : Array Value} : afield Tryz.prog 34 (.agg c) 0 = c.toList[0]? := by simp [afield, apart, Tryz.underlying34, ag3]
theorem fa34_1 {a : Addr} (ha : a.spot = none) : afieldAddr Tryz.prog 34 (.pointer (some a)) 1 = some (.pointer (some ⟨a.block, a.off + 1, none⟩)) := by simp [afieldAddr, Tryz.underlying34, sz3, ha, addo]
theorem fd34_1 {c : Array Value} : afield Tryz.prog 34 (.agg c) 1 = c.toList[1]? := by simp [afield, apart, Tryz.underlying34, ag3]
theorem fa34_2 {a : Addr} (ha : a.spot = none) : afieldAddr Tryz.prog 34 (.pointer (some a)) 2 = some (.pointer (some ⟨a.block, a.off + 2, none⟩)) := by simp [afieldAddr, Tryz.underlying34, sz3, ha, addo]
theorem fd34_2 {c : Array Value} : afield Tryz.prog 34 (.agg c) 2 = c.toList[2]? := by simp [afield, apart, Tryz.underlying34, ag3]
theorem bd34 {ps : List (Nat × Value)} : abuild Tryz.prog 34 ps = (afill (fun i => ([(0, 1), (1, 1), (2, 1)] : List (Nat × Nat))[i]?) [.int .i64 0, .int .i64 0, .int .i64 0] ps).map fun l => .agg l.toArray := by simp [abuild, zr34, Tryz.underlying34, aplaces, sz3, vcells]
theorem ld36 (hE : E.P = Tryz.prog) {a : Addr} : aload E h 36 (.pointer (some a)) = (acells E h a 1).bind fun l => l[0]? := by simp only [aload, hE, ag36]
theorem st36 (hE : E.P = Tryz.prog) {a : Addr} {v : Value} : astore E h 36 (.pointer (some a)) v = if 1 = (vcells v).length then awrite h a (vcells v) else none := by simp [astore, hE, sz36]
theorem al36 : aalloc Tryz.prog ev (.alloc 36) = some (fun b => .pointer (some ⟨b, 0, none⟩), .cells [.slice none 0 0] 36 true) := by simp [aalloc, zr36, vcells]
theorem ia36 {a : Addr} {len cap : Nat} {k : IntKind} {n : Int} (ha : a.spot = none) (h0 : 0 ≤ n) (h1 : n < len) : aindexAddr Tryz.prog 36 (.slice (some a) len cap) (.int k n) = some (.pointer (some ⟨a.block, a.off + n.toNat * 3, none⟩)) := by simp [aindexAddr, Tryz.underlying36, sz56, ha, addo, h0, h1]
theorem le36 {a : Option Addr} {len cap : Nat} : alen Tryz.prog 36 (.slice a len cap) = some (.int .i64 len) := by simp [alen, Tryz.underlying36]
theorem in56 : (Tryz.prog.info? 56).map (fun i => (i.size, i.bytes)) = some (3, 32) := by kernel_rfl
theorem mk36 {k k' : IntKind} {l c : Int} (h0 : 0 ≤ l) (h1 : l ≤ c) (h2 : 32 * c ≤ 281474976710656) (h3 : c ≤ 9223372036854775807) : amk Tryz.prog 36 (.int k l) (.int k' c) = some (fun b => .slice (some ⟨b, 0, none⟩) l.toNat c.toNat, .cells (arep c.toNat [.int .i64 0, .int .i64 0, .string .empty]) 56 true) := makeSlice_at (E := { P := Tryz.prog, base := 0, ro := fun _ => none }) ⟨Tryz.underlying36, in56, ⟨_, zr56, rfl⟩, by decide⟩ ⟨_, zr56, rfl⟩ h0 h1 h2 h3
theorem bs36 {v : Value} (hl : (vcells v).length = 3) : abs1 Tryz.prog 36 1 [(0, v)] = some (fun b => .slice (some ⟨b, 0, none⟩) 1 1, .cells (vcells v) 56 true) := buildSlice_one (E := { P := Tryz.prog, base := 0, ro := fun _ => none }) ⟨Tryz.underlying36, in56, ⟨_, zr56, rfl⟩, by decide⟩ hl (by decide)
theorem el36 (hE : E.P = Tryz.prog) : Elem E 36 56 3 32 := ⟨by rw [hE]; exact Tryz.underlying36, by rw [hE]; exact in56, ⟨_, by rw [hE]; exact zr56, rfl⟩, by decide⟩
theorem ld37 (hE : E.P = Tryz.prog) {a : Addr} : aload E h 37 (.pointer (some a)) = (acells E h a 1).bind fun l => l[0]? := by simp only [aload, hE, ag37]
theorem st37 (hE : E.P = Tryz.prog) {a : Addr} {v : Value} : astore E h 37 (.pointer (some a)) v = if 1 = (vcells v).length then awrite h a (vcells v) else none := by simp [astore, hE, sz37]
theorem al37 : aalloc Tryz.prog ev (.alloc 37) = some (fun b => .pointer (some ⟨b, 0, none⟩), .cells [.slice none 0 0] 37 true) := by simp [aalloc, zr37, vcells]
theorem ia37 {a : Addr} {len cap : Nat} {k : IntKind} {n : Int} (ha : a.spot = none) (h0 : 0 ≤ n) (h1 : n < len) : aindexAddr Tryz.prog 37 (.slice (some a) len cap) (.int k n) = some (.pointer (some ⟨a.block, a.off + n.toNat * 3, none⟩)) := by simp [aindexAddr, Tryz.underlying37, sz204, ha, addo, h0, h1]
theorem le37 {a : Option Addr} {len cap : Nat} : alen Tryz.prog 37 (.slice a len cap) = some (.int .i64 len) := by simp [alen, Tryz.underlying37]
theorem in204 : (Tryz.prog.info? 204).map (fun i => (i.size, i.bytes)) = some (3, 64) := by kernel_rfl
theorem mk37 {k k' : IntKind} {l c : Int} (h0 : 0 ≤ l) (h1 : l ≤ c) (h2 : 64 * c ≤ 281474976710656) (h3 : c ≤ 9223372036854775807) : amk Tryz.prog 37 (.int k l) (.int k' c) = some (fun b => .slice (some ⟨b, 0, none⟩) l.toNat c.toNat, .cells (arep c.toNat [.string .empty, .slice none 0 0, .slice none 0 0]) 204 true) := makeSlice_at (E := { P := Tryz.prog, base := 0, ro := fun _ => none }) ⟨Tryz.underlying37, in204, ⟨_, zr204, rfl⟩, by decide⟩ ⟨_, zr204, rfl⟩ h0 h1 h2 h3
theorem bs37 {v : Value} (hl : (vcells v).length = 3) : abs1 Tryz.prog 37 1 [(0, v)] = some (fun b => .slice (some ⟨b, 0, none⟩) 1 1, .cells (vcells v) 204 true) := buildSlice_one (E := { P := Tryz.prog, base := 0, ro := fun _ => none }) ⟨Tryz.underlying37, in204, ⟨_, zr204, rfl⟩, by decide⟩ hl (by decide)
theorem el37 (hE : E.P = Tryz.prog) : Elem E 37 204 3 64 := ⟨by rw [hE]; exact Tryz.underlying37, by rw [hE]; exact in204, ⟨_, by rw [hE]; exact zr204, rfl⟩, by decide⟩
theorem ld39 (hE : E.P = Tryz.prog) {a : Addr} : aload E h 39 (.pointer (some a)) = (acells E h a 1).map fun l => .agg l.toArray := by simp only [aload, hE, ag39, sz39]
theorem st39 (hE : E.P = Tryz.prog) {a : Addr} {v : Value} : astore E h 39 (.pointer (some a)) v = if 1 = (vcells v).length then awrite h a (vcells v) else none := by simp [astore, hE, sz39]
theorem al39 : aalloc Tryz.prog ev (.alloc 39) = some (fun b => .pointer (some ⟨b, 0, none⟩), .cells [.slice none 0 0] 39 true) := by simp [aalloc, zr39, vcells]
theorem fa39_0 {a : Addr} (ha : a.spot = none) : afieldAddr Tryz.prog 39 (.pointer (some a)) 0 = some (.pointer (some ⟨a.block, a.off + 0, none⟩)) := by simp [afieldAddr, Tryz.underlying39, sz37, ha, addo]
theorem fd39_0 {c : Array Value} : afield Tryz.prog 39 (.agg c) 0 = c.toList[0]? := by simp [afield, apart, Tryz.underlying39, ag37]
theorem bd39 {ps : List (Nat × Value)} : abuild Tryz.prog 39 ps = (afill (fun i => ([(0, 1)] : List (Nat × Nat))[i]?) [.slice none 0 0] ps).map fun l => .agg l.toArray := by simp [abuild, zr39, Tryz.underlying39, aplaces, sz37, vcells]
theorem ld40 (hE : E.P = Tryz.prog) {a : Addr} : aload E h 40 (.pointer (some a)) = (acells E h a 1).bind fun l => l[0]? := by simp only [aload, hE, ag40]
theorem st40 (hE : E.P = Tryz.prog) {a : Addr} {v : Value} : astore E h 40 (.pointer (some a)) v = if 1 = (vcells v).length then awrite h a (vcells v) else none := by simp [astore, hE, sz40]
theorem al40 : aalloc Tryz.prog ev (.alloc 40) = some (fun b => .pointer (some ⟨b, 0, none⟩), .cells [.slice none 0 0] 40 true) := by simp [aalloc, zr40, vcells]
theorem ia40 {a : Addr} {len cap : Nat} {k : IntKind} {n : Int} (ha : a.spot = none) (h0 : 0 ≤ n) (h1 : n < len) : aindexAddr Tryz.prog 40 (.slice (some a) len cap) (.int k n) = some (.pointer (some ⟨a.block, a.off + n.toNat * 5, none⟩)) := by simp [aindexAddr, Tryz.underlying40, sz121, ha, addo, h0, h1]
theorem le40 {a : Option Addr} {len cap : Nat} : alen Tryz.prog 40 (.slice a len cap) = some (.int .i64 len) := by simp [alen, Tryz.underlying40]
theorem in121 : (Tryz.prog.info? 121).map (fun i => (i.size, i.bytes)) = some (5, 56) := by kernel_rfl
theorem mk40 {k k' : IntKind} {l c : Int} (h0 : 0 ≤ l) (h1 : l ≤ c) (h2 : 56 * c ≤ 281474976710656) (h3 : c ≤ 9223372036854775807) : amk Tryz.prog 40 (.int k l) (.int k' c) = some (fun b => .slice (some ⟨b, 0, none⟩) l.toNat c.toNat, .cells (arep c.toNat [.int .i64 0, .int .i64 0, .int .i64 0, .int .i64 0, .slice none 0 0]) 121 true) := makeSlice_at (E := { P := Tryz.prog, base := 0, ro := fun _ => none }) ⟨Tryz.underlying40, in121, ⟨_, zr121, rfl⟩, by decide⟩ ⟨_, zr121, rfl⟩ h0 h1 h2 h3
theorem bs40 {v : Value} (hl : (vcells v).length = 5) : abs1 Tryz.prog 40 1 [(0, v)] = some (fun b => .slice (some ⟨b, 0, none⟩) 1 1, .cells (vcells v) 121 true) := buildSlice_one (E := { P := Tryz.prog, base := 0, ro := fun _ => none }) ⟨Tryz.underlying40, in121, ⟨_, zr121, rfl⟩, by decide⟩ hl (by decide)
theorem el40 (hE : E.P = Tryz.prog) : Elem E 40 121 5 56 := ⟨by rw [hE]; exact Tryz.underlying40, by rw [hE]; exact in121, ⟨_, by rw [hE]; exact zr121, rfl⟩, by decide⟩
theorem ld42 (hE : E.P = Tryz.prog) {a : Addr} : aload E h 42 (.pointer (some a)) = (acells E h a 4).map fun l => .agg l.toArray := by simp only [aload, hE, ag42, sz42]
theorem st42 (hE : E.P = Tryz.prog) {a : Addr} {v : Value} : astore E h 42 (.pointer (some a)) v = if 4 = (vcells v).length then awrite h a (vcells v) else none := by simp [astore, hE, sz42]
theorem al42 : aalloc Tryz.prog ev (.alloc 42) = some (fun b => .pointer (some ⟨b, 0, none⟩), .cells [.bool false, .slice none 0 0, .slice none 0 0, .slice none 0 0] 42 true) := by simp [aalloc, zr42, vcells]
theorem fa42_0 {a : Addr} (ha : a.spot = none) : afieldAddr Tryz.prog 42 (.pointer (some a)) 0 = some (.pointer (some ⟨a.block, a.off + 0, none⟩)) := by simp [afieldAddr, Tryz.underlying42, sz4, ha, addo]
theorem fd42_0 {c : Array Value} : afield Tryz.prog 42 (.agg c) 0 = c.toList[0]? := by simp [afield, apart, Tryz.underlying42, ag4]
theorem fa42_1 {a : Addr} (ha : a.spot = none) : afieldAddr Tryz.prog 42 (.pointer (some a)) 1 = some (.pointer (some ⟨a.block, a.off + 1, none⟩)) := by simp [afieldAddr, Tryz.underlying42, sz36, ha, addo]
theorem fd42_1 {c : Array Value} : afield Tryz.prog 42 (.agg c) 1 = c.toList[1]? := by simp [afield, apart, Tryz.underlying42, ag36]
theorem fa42_2 {a : Addr} (ha : a.spot = none) : afieldAddr Tryz.prog 42 (.pointer (some a)) 2 = some (.pointer (some ⟨a.block, a.off + 2, none⟩)) := by simp [afieldAddr, Tryz.underlying42, sz39, ha, addo]
theorem fd42_2 {c : Array Value} : afield Tryz.prog 42 (.agg c) 2 = some (.agg ((c.toList.drop 2).take 1).toArray) := by simp [afield, apart, Tryz.underlying42, ag39, sz39]
theorem fa42_3 {a : Addr} (ha : a.spot = none) : afieldAddr Tryz.prog 42 (.pointer (some a)) 3 = some (.pointer (some ⟨a.block, a.off + 3, none⟩)) := by simp [afieldAddr, Tryz.underlying42, sz40, ha, addo]
theorem fd42_3 {c : Array Value} : afield Tryz.prog 42 (.agg c) 3 = c.toList[3]? := by simp [afield, apart, Tryz.underlying42, ag40]
theorem bd42 {ps : List (Nat × Value)} : abuild Tryz.prog 42 ps = (afill (fun i => ([(0, 1), (1, 1), (2, 1), (3, 1)] : List (Nat × Nat))[i]?) [.bool false, .slice none 0 0, .slice none 0 0, .slice none 0 0] ps).map fun l => .agg l.toArray := by simp [abuild, zr42, Tryz.underlying42, aplaces, sz36, sz39, sz4, sz40, vcells]
theorem ld44 (hE : E.P = Tryz.prog) {a : Addr} : aload E h 44 (.pointer (some a)) = (acells E h a 4).map fun l => .agg l.toArray := by simp only [aload, hE, ag44, sz44]
theorem st44 (hE : E.P = Tryz.prog) {a : Addr} {v : Value} : astore E h 44 (.pointer (some a)) v = if 4 = (vcells v).length then awrite h a (vcells v) else none := by simp [astore, hE, sz44]
theorem al44 : aalloc Tryz.prog ev (.alloc 44) = some (fun b => .pointer (some ⟨b, 0, none⟩), .cells [.bool false, .slice none 0 0, .slice none 0 0, .slice none 0 0] 44 true) := by simp [aalloc, zr44, vcells]
theorem fa44_0 {a : Addr} (ha : a.spot = none) : afieldAddr Tryz.prog 44 (.pointer (some a)) 0 = some (.pointer (some ⟨a.block, a.off + 0, none⟩)) := by simp [afieldAddr, Tryz.underlying44, sz42, ha, addo]
theorem fd44_0 {c : Array Value} : afield Tryz.prog 44 (.agg c) 0 = some (.agg ((c.toList.drop 0).take 4).toArray) := by simp [afield, apart, Tryz.underlying44, ag42, sz42]
theorem bd44 {ps : List (Nat × Value)} : abuild Tryz.prog 44 ps = (afill (fun i => ([(0, 4)] : List (Nat × Nat))[i]?) [.bool false, .slice none 0 0, .slice none 0 0, .slice none 0 0] ps).map fun l => .agg l.toArray := by simp [abuild, zr44, Tryz.underlying44, aplaces, sz42, vcells]
theorem ld45 (hE : E.P = Tryz.prog) {a : Addr} : aload E h 45 (.pointer (some a)) = (acells E h a 1).bind fun l => l[0]? := by simp only [aload, hE, ag45]
theorem st45 (hE : E.P = Tryz.prog) {a : Addr} {v : Value} : astore E h 45 (.pointer (some a)) v = if 1 = (vcells v).length then awrite h a (vcells v) else none := by simp [astore, hE, sz45]
theorem al45 : aalloc Tryz.prog ev (.alloc 45) = some (fun b => .pointer (some ⟨b, 0, none⟩), .cells [.pointer none] 45 true) := by simp [aalloc, zr45, vcells]
theorem ld46 (hE : E.P = Tryz.prog) {a : Addr} : aload E h 46 (.pointer (some a)) = (acells E h a 1).bind fun l => l[0]? := by simp only [aload, hE, ag46]
theorem st46 (hE : E.P = Tryz.prog) {a : Addr} {v : Value} : astore E h 46 (.pointer (some a)) v = if 1 = (vcells v).length then awrite h a (vcells v) else none := by simp [astore, hE, sz46]
theorem al46 : aalloc Tryz.prog ev (.alloc 46) = some (fun b => .pointer (some ⟨b, 0, none⟩), .cells [.pointer none] 46 true) := by simp [aalloc, zr46, vcells]
theorem ld48 (hE : E.P = Tryz.prog) {a : Addr} : aload E h 48 (.pointer (some a)) = (acells E h a 18).map fun l => .agg l.toArray := by simp only [aload, hE, ag48, sz48]
theorem st48 (hE : E.P = Tryz.prog) {a : Addr} {v : Value} : astore E h 48 (.pointer (some a)) v = if 18 = (vcells v).length then awrite h a (vcells v) else none := by simp [astore, hE, sz48]
theorem al48 : aalloc Tryz.prog ev (.alloc 48) = some (fun b => .pointer (some ⟨b, 0, none⟩), .cells [.int .i64 0, .int .i64 0, .int .i64 0, .int .i64 0, .int .i64 0, .int .i64 0, .int .i64 0, .int .i64 0, .slice none 0 0, .bool false, .slice none 0 0, .slice none 0 0, .slice none 0 0, .slice none 0 0, .slice none 0 0, .bool false, .slice none 0 0, .slice none 0 0] 48 true) := by simp [aalloc, zr48, vcells]
theorem fa48_0 {a : Addr} (ha : a.spot = none) : afieldAddr Tryz.prog 48 (.pointer (some a)) 0 = some (.pointer (some ⟨a.block, a.off + 0, none⟩)) := by simp [afieldAddr, Tryz.underlying48, sz3, ha, addo]
theorem fd48_0 {c : Array Value} : afield Tryz.prog 48 (.agg c) 0 = c.toList[0]? := by simp [afield, apart, Tryz.underlying48, ag3]
theorem fa48_1 {a : Addr} (ha : a.spot = none) : afieldAddr Tryz.prog 48 (.pointer (some a)) 1 = some (.pointer (some ⟨a.block, a.off + 1, none⟩)) := by simp [afieldAddr, Tryz.underlying48, sz3, ha, addo]
theorem fd48_1 {c : Array Value} : afield Tryz.prog 48 (.agg c) 1 = c.toList[1]? := by simp [afield, apart, Tryz.underlying48, ag3]
theorem fa48_2 {a : Addr} (ha : a.spot = none) : afieldAddr Tryz.prog 48 (.pointer (some a)) 2 = some (.pointer (some ⟨a.block, a.off + 2, none⟩)) := by simp [afieldAddr, Tryz.underlying48, sz3, ha, addo]
theorem fd48_2 {c : Array Value} : afield Tryz.prog 48 (.agg c) 2 = c.toList[2]? := by simp [afield, apart, Tryz.underlying48, ag3]
theorem fa48_3 {a : Addr} (ha : a.spot = none) : afieldAddr Tryz.prog 48 (.pointer (some a)) 3 = some (.pointer (some ⟨a.block, a.off + 3, none⟩)) := by simp [afieldAddr, Tryz.underlying48, sz3, ha, addo]
theorem fd48_3 {c : Array Value} : afield Tryz.prog 48 (.agg c) 3 = c.toList[3]? := by simp [afield, apart, Tryz.underlying48, ag3]
theorem fa48_4 {a : Addr} (ha : a.spot = none) : afieldAddr Tryz.prog 48 (.pointer (some a)) 4 = some (.pointer (some ⟨a.block, a.off + 4, none⟩)) := by simp [afieldAddr, Tryz.underlying48, sz3, ha, addo]
theorem fd48_4 {c : Array Value} : afield Tryz.prog 48 (.agg c) 4 = c.toList[4]? := by simp [afield, apart, Tryz.underlying48, ag3]
theorem fa48_5 {a : Addr} (ha : a.spot = none) : afieldAddr Tryz.prog 48 (.pointer (some a)) 5 = some (.pointer (some ⟨a.block, a.off + 5, none⟩)) := by simp [afieldAddr, Tryz.underlying48, sz3, ha, addo]
theorem fd48_5 {c : Array Value} : afield Tryz.prog 48 (.agg c) 5 = c.toList[5]? := by simp [afield, apart, Tryz.underlying48, ag3]
theorem fa48_6 {a : Addr} (ha : a.spot = none) : afieldAddr Tryz.prog 48 (.pointer (some a)) 6 = some (.pointer (some ⟨a.block, a.off + 6, none⟩)) := by simp [afieldAddr, Tryz.underlying48, sz3, ha, addo]
theorem fd48_6 {c : Array Value} : afield Tryz.prog 48 (.agg c) 6 = c.toList[6]? := by simp [afield, apart, Tryz.underlying48, ag3]
theorem fa48_7 {a : Addr} (ha : a.spot = none) : afieldAddr Tryz.prog 48 (.pointer (some a)) 7 = some (.pointer (some ⟨a.block, a.off + 7, none⟩)) := by simp [afieldAddr, Tryz.underlying48, sz3, ha, addo]
theorem fd48_7 {c : Array Value} : afield Tryz.prog 48 (.agg c) 7 = c.toList[7]? := by simp [afield, apart, Tryz.underlying48, ag3]
theorem fa48_8 {a : Addr} (ha : a.spot = none) : afieldAddr Tryz.prog 48 (.pointer (some a)) 8 = some (.pointer (some ⟨a.block, a.off + 8, none⟩)) := by simp [afieldAddr, Tryz.underlying48, sz36, ha, addo]
theorem fd48_8 {c : Array Value} : afield Tryz.prog 48 (.agg c) 8 = c.toList[8]? := by simp [afield, apart, Tryz.underlying48, ag36]
theorem fa48_9 {a : Addr} (ha : a.spot = none) : afieldAddr Tryz.prog 48 (.pointer (some a)) 9 = some (.pointer (some ⟨a.block, a.off + 9, none⟩)) := by simp [afieldAddr, Tryz.underlying48, sz42, ha, addo]
theorem fd48_9 {c : Array Value} : afield Tryz.prog 48 (.agg c) 9 = some (.agg ((c.toList.drop 9).take 4).toArray) := by simp [afield, apart, Tryz.underlying48, ag42, sz42]
theorem fa48_10 {a : Addr} (ha : a.spot = none) : afieldAddr Tryz.prog 48 (.pointer (some a)) 10 = some (.pointer (some ⟨a.block, a.off + 13, none⟩)) := by simp [afieldAddr, Tryz.underlying48, sz27, ha, addo]
theorem fd48_10 {c : Array Value} : afield Tryz.prog 48 (.agg c) 10 = c.toList[13]? := by simp [afield, apart, Tryz.underlying48, ag27]
theorem fa48_11 {a : Addr} (ha : a.spot = none) : afieldAddr Tryz.prog 48 (.pointer (some a)) 11 = some (.pointer (some ⟨a.block, a.off + 14, none⟩)) := by simp [afieldAddr, Tryz.underlying48, sz25, ha, addo]
theorem fd48_11 {c : Array Value} : afield Tryz.prog 48 (.agg c) 11 = c.toList[14]? := by simp [afield, apart, Tryz.underlying48, ag25]
theorem fa48_12 {a : Addr} (ha : a.spot = none) : afieldAddr Tryz.prog 48 (.pointer (some a)) 12 = some (.pointer (some ⟨a.block, a.off + 15, none⟩)) := by simp [afieldAddr, Tryz.underlying48, sz4, ha, addo]
theorem fd48_12 {c : Array Value} : afield Tryz.prog 48 (.agg c) 12 = c.toList[15]? := by simp [afield, apart, Tryz.underlying48, ag4]
theorem fa48_13 {a : Addr} (ha : a.spot = none) : afieldAddr Tryz.prog 48 (.pointer (some a)) 13 = some (.pointer (some ⟨a.block, a.off + 16, none⟩)) := by simp [afieldAddr, Tryz.underlying48, sz26, ha, addo]
theorem fd48_13 {c : Array Value} : afield Tryz.prog 48 (.agg c) 13 = c.toList[16]? := by simp [afield, apart, Tryz.underlying48, ag26]
theorem fa48_14 {a : Addr} (ha : a.spot = none) : afieldAddr Tryz.prog 48 (.pointer (some a)) 14 = some (.pointer (some ⟨a.block, a.off + 17, none⟩)) := by simp [afieldAddr, Tryz.underlying48, sz26, ha, addo]
theorem fd48_14 {c : Array Value} : afield Tryz.prog 48 (.agg c) 14 = c.toList[17]? := by simp [afield, apart, Tryz.underlying48, ag26]
theorem bd48 {ps : List (Nat × Value)} : abuild Tryz.prog 48 ps = (afill (fun i => ([(0, 1), (1, 1), (2, 1), (3, 1), (4, 1), (5, 1), (6, 1), (7, 1), (8, 1), (9, 4), (13, 1), (14, 1), (15, 1), (16, 1), (17, 1)] : List (Nat × Nat))[i]?) [.int .i64 0, .int .i64 0, .int .i64 0, .int .i64 0, .int .i64 0, .int .i64 0, .int .i64 0, .int .i64 0, .slice none 0 0, .bool false, .slice none 0 0, .slice none 0 0, .slice none 0 0, .slice none 0 0, .slice none 0 0, .bool false, .slice none 0 0, .slice none 0 0] ps).map fun l => .agg l.toArray := by simp [abuild, zr48, Tryz.underlying48, aplaces, sz25, sz26, sz27, sz3, sz36, sz4, sz42, vcells]
theorem ld50 (hE : E.P = Tryz.prog) {a : Addr} : aload E h 50 (.pointer (some a)) = (acells E h a 20).map fun l => .agg l.toArray := by simp only [aload, hE, ag50, sz50]
theorem st50 (hE : E.P = Tryz.prog) {a : Addr} {v : Value} : astore E h 50 (.pointer (some a)) v = if 20 = (vcells v).length then awrite h a (vcells v) else none := by simp [astore, hE, sz50]
theorem al50 : aalloc Tryz.prog ev (.alloc 50) = some (fun b => .pointer (some ⟨b, 0, none⟩), .cells [.pointer none, .pointer none, .int .i64 0, .int .i64 0, .int .i64 0, .int .i64 0, .int .i64 0, .int .i64 0, .int .i64 0, .int .i64 0, .slice none 0 0, .bool false, .slice none 0 0, .slice none 0 0, .slice none 0 0, .slice none 0 0, .slice none 0 0, .bool false, .slice none 0 0, .slice none 0 0] 50 true) := by simp [aalloc, zr50, vcells]
theorem fa50_0 {a : Addr} (ha : a.spot = none) : afieldAddr Tryz.prog 50 (.pointer (some a)) 0 = some (.pointer (some ⟨a.block, a.off + 0, none⟩)) := by simp [afieldAddr, Tryz.underlying50, sz45, ha, addo]
theorem fd50_0 {c : Array Value} : afield Tryz.prog 50 (.agg c) 0 = c.toList[0]? := by simp [afield, apart, Tryz.underlying50, ag45]
theorem fa50_1 {a : Addr} (ha : a.spot = none) : afieldAddr Tryz.prog 50 (.pointer (some a)) 1 = some (.pointer (some ⟨a.block, a.off + 1, none⟩)) := by simp [afieldAddr, Tryz.underlying50, sz46, ha, addo]
theorem fd50_1 {c : Array Value} : afield Tryz.prog 50 (.agg c) 1 = c.toList[1]? := by simp [afield, apart, Tryz.underlying50, ag46]
theorem fa50_2 {a : Addr} (ha : a.spot = none) : afieldAddr Tryz.prog 50 (.pointer (some a)) 2 = some (.pointer (some ⟨a.block, a.off + 2, none⟩)) := by simp [afieldAddr, Tryz.underlying50, sz48, ha, addo]
theorem fd50_2 {c : Array Value} : afield Tryz.prog 50 (.agg c) 2 = some (.agg ((c.toList.drop 2).take 18).toArray) := by simp [afield, apart, Tryz.underlying50, ag48, sz48]
theorem bd50 {ps : List (Nat × Value)} : abuild Tryz.prog 50 ps = (afill (fun i => ([(0, 1), (1, 1), (2, 18)] : List (Nat × Nat))[i]?) [.pointer none, .pointer none, .int .i64 0, .int .i64 0, .int .i64 0, .int .i64 0, .int .i64 0, .int .i64 0, .int .i64 0, .int .i64 0, .slice none 0 0, .bool false, .slice none 0 0, .slice none 0 0, .slice none 0 0, .slice none 0 0, .slice none 0 0, .bool false, .slice none 0 0, .slice none 0 0] ps).map fun l => .agg l.toArray := by simp [abuild, zr50, Tryz.underlying50, aplaces, sz45, sz46, sz48, vcells]
theorem ld53 (hE : E.P = Tryz.prog) {a : Addr} : aload E h 53 (.pointer (some a)) = (acells E h a 1).bind fun l => l[0]? := by simp only [aload, hE, ag53]
theorem st53 (hE : E.P = Tryz.prog) {a : Addr} {v : Value} : astore E h 53 (.pointer (some a)) v = if 1 = (vcells v).length then awrite h a (vcells v) else none := by simp [astore, hE, sz53]
theorem al53 : aalloc Tryz.prog ev (.alloc 53) = some (fun b => .pointer (some ⟨b, 0, none⟩), .cells [.slice none 0 0] 53 true) := by simp [aalloc, zr53, vcells]
theorem ia53 {a : Addr} {len cap : Nat} {k : IntKind} {n : Int} (ha : a.spot = none) (h0 : 0 ≤ n) (h1 : n < len) : aindexAddr Tryz.prog 53 (.slice (some a) len cap) (.int k n) = some (.pointer (some ⟨a.block, a.off + n.toNat * 1, none⟩)) := by simp [aindexAddr, Tryz.underlying53, sz5, ha, addo, h0, h1]
theorem le53 {a : Option Addr} {len cap : Nat} : alen Tryz.prog 53 (.slice a len cap) = some (.int .i64 len) := by simp [alen, Tryz.underlying53]
theorem in5 : (Tryz.prog.info? 5).map (fun i => (i.size, i.bytes)) = some (1, 1) := by kernel_rfl
theorem mk53 {k k' : IntKind} {l c : Int} (h0 : 0 ≤ l) (h1 : l ≤ c) (h2 : 1 * c ≤ 281474976710656) (h3 : c ≤ 9223372036854775807) : amk Tryz.prog 53 (.int k l) (.int k' c) = some (fun b => .slice (some ⟨b, 0, none⟩) l.toNat c.toNat, .cells (arep c.toNat [.int .u8 0]) 5 true) := makeSlice_at (E := { P := Tryz.prog, base := 0, ro := fun _ => none }) ⟨Tryz.underlying53, in5, ⟨_, zr5, rfl⟩, by decide⟩ ⟨_, zr5, rfl⟩ h0 h1 h2 h3
theorem bs53 {v : Value} (hl : (vcells v).length = 1) : abs1 Tryz.prog 53 1 [(0, v)] = some (fun b => .slice (some ⟨b, 0, none⟩) 1 1, .cells (vcells v) 5 true) := buildSlice_one (E := { P := Tryz.prog, base := 0, ro := fun _ => none }) ⟨Tryz.underlying53, in5, ⟨_, zr5, rfl⟩, by decide⟩ hl (by decide)
theorem el53 (hE : E.P = Tryz.prog) : Elem E 53 5 1 1 := ⟨by rw [hE]; exact Tryz.underlying53, by rw [hE]; exact in5, ⟨_, by rw [hE]; exact zr5, rfl⟩, by decide⟩
theorem ld54 (hE : E.P = Tryz.prog) {a : Addr} : aload E h 54 (.pointer (some a)) = (acells E h a 4).map fun l => .agg l.toArray := by simp only [aload, hE, ag54, sz54]
theorem st54 (hE : E.P = Tryz.prog) {a : Addr} {v : Value} : astore E h 54 (.pointer (some a)) v = if 4 = (vcells v).length then awrite h a (vcells v) else none := by simp [astore, hE, sz54]
theorem al54 : aalloc Tryz.prog ev (.alloc 54) = some (fun b => .pointer (some ⟨b, 0, none⟩), .cells [.int .i64 0, .int .i64 0, .int .i64 0, .int .i64 0] 54 true) := by simp [aalloc, zr54, vcells]
theorem ld56 (hE : E.P = Tryz.prog) {a : Addr} : aload E h 56 (.pointer (some a)) = (acells E h a 3).map fun l => .agg l.toArray := by simp only [aload, hE, ag56, sz56]
theorem st56 (hE : E.P = Tryz.prog) {a : Addr} {v : Value} : astore E h 56 (.pointer (some a)) v = if 3 = (vcells v).length then awrite h a (vcells v) else none := by simp [astore, hE, sz56]
theorem al56 : aalloc Tryz.prog ev (.alloc 56) = some (fun b => .pointer (some ⟨b, 0, none⟩), .cells [.int .i64 0, .int .i64 0, .string .empty] 56 true) := by simp [aalloc, zr56, vcells]
theorem fa56_0 {a : Addr} (ha : a.spot = none) : afieldAddr Tryz.prog 56 (.pointer (some a)) 0 = some (.pointer (some ⟨a.block, a.off + 0, none⟩)) := by simp [afieldAddr, Tryz.underlying56, sz3, ha, addo]
theorem fd56_0 {c : Array Value} : afield Tryz.prog 56 (.agg c) 0 = c.toList[0]? := by simp [afield, apart, Tryz.underlying56, ag3]
theorem fa56_1 {a : Addr} (ha : a.spot = none) : afieldAddr Tryz.prog 56 (.pointer (some a)) 1 = some (.pointer (some ⟨a.block, a.off + 1, none⟩)) := by simp [afieldAddr, Tryz.underlying56, sz3, ha, addo]
theorem fd56_1 {c : Array Value} : afield Tryz.prog 56 (.agg c) 1 = c.toList[1]? := by simp [afield, apart, Tryz.underlying56, ag3]
theorem fa56_2 {a : Addr} (ha : a.spot = none) : afieldAddr Tryz.prog 56 (.pointer (some a)) 2 = some (.pointer (some ⟨a.block, a.off + 2, none⟩)) := by simp [afieldAddr, Tryz.underlying56, sz9, ha, addo]
theorem fd56_2 {c : Array Value} : afield Tryz.prog 56 (.agg c) 2 = c.toList[2]? := by simp [afield, apart, Tryz.underlying56, ag9]
theorem bd56 {ps : List (Nat × Value)} : abuild Tryz.prog 56 ps = (afill (fun i => ([(0, 1), (1, 1), (2, 1)] : List (Nat × Nat))[i]?) [.int .i64 0, .int .i64 0, .string .empty] ps).map fun l => .agg l.toArray := by simp [abuild, zr56, Tryz.underlying56, aplaces, sz3, sz9, vcells]
theorem ld57 (hE : E.P = Tryz.prog) {a : Addr} : aload E h 57 (.pointer (some a)) = (acells E h a 1).bind fun l => l[0]? := by simp only [aload, hE, ag57]
theorem st57 (hE : E.P = Tryz.prog) {a : Addr} {v : Value} : astore E h 57 (.pointer (some a)) v = if 1 = (vcells v).length then awrite h a (vcells v) else none := by simp [astore, hE, sz57]
theorem al57 : aalloc Tryz.prog ev (.alloc 57) = some (fun b => .pointer (some ⟨b, 0, none⟩), .cells [.int .i64 0] 57 true) := by simp [aalloc, zr57, vcells]
theorem ld58 (hE : E.P = Tryz.prog) {a : Addr} : aload E h 58 (.pointer (some a)) = (acells E h a 1).bind fun l => l[0]? := by simp only [aload, hE, ag58]
theorem st58 (hE : E.P = Tryz.prog) {a : Addr} {v : Value} : astore E h 58 (.pointer (some a)) v = if 1 = (vcells v).length then awrite h a (vcells v) else none := by simp [astore, hE, sz58]
theorem al58 : aalloc Tryz.prog ev (.alloc 58) = some (fun b => .pointer (some ⟨b, 0, none⟩), .cells [.slice none 0 0] 58 true) := by simp [aalloc, zr58, vcells]
theorem ia58 {a : Addr} {len cap : Nat} {k : IntKind} {n : Int} (ha : a.spot = none) (h0 : 0 ≤ n) (h1 : n < len) : aindexAddr Tryz.prog 58 (.slice (some a) len cap) (.int k n) = some (.pointer (some ⟨a.block, a.off + n.toNat * 5, none⟩)) := by simp [aindexAddr, Tryz.underlying58, sz141, ha, addo, h0, h1]
theorem le58 {a : Option Addr} {len cap : Nat} : alen Tryz.prog 58 (.slice a len cap) = some (.int .i64 len) := by simp [alen, Tryz.underlying58]
theorem in141 : (Tryz.prog.info? 141).map (fun i => (i.size, i.bytes)) = some (5, 80) := by kernel_rfl
theorem mk58 {k k' : IntKind} {l c : Int} (h0 : 0 ≤ l) (h1 : l ≤ c) (h2 : 80 * c ≤ 281474976710656) (h3 : c ≤ 9223372036854775807) : amk Tryz.prog 58 (.int k l) (.int k' c) = some (fun b => .slice (some ⟨b, 0, none⟩) l.toNat c.toNat, .cells (arep c.toNat [.int .i64 0, .int .i64 0, .string .empty, .slice none 0 0, .slice none 0 0]) 141 true) := makeSlice_at (E := { P := Tryz.prog, base := 0, ro := fun _ => none }) ⟨Tryz.underlying58, in141, ⟨_, zr141, rfl⟩, by decide⟩ ⟨_, zr141, rfl⟩ h0 h1 h2 h3
theorem bs58 {v : Value} (hl : (vcells v).length = 5) : abs1 Tryz.prog 58 1 [(0, v)] = some (fun b => .slice (some ⟨b, 0, none⟩) 1 1, .cells (vcells v) 141 true) := buildSlice_one (E := { P := Tryz.prog, base := 0, ro := fun _ => none }) ⟨Tryz.underlying58, in141, ⟨_, zr141, rfl⟩, by decide⟩ hl (by decide)
theorem el58 (hE : E.P = Tryz.prog) : Elem E 58 141 5 80 := ⟨by rw [hE]; exact Tryz.underlying58, by rw [hE]; exact in141, ⟨_, by rw [hE]; exact zr141, rfl⟩, by decide⟩
theorem ld60 (hE : E.P = Tryz.prog) {a : Addr} : aload E h 60 (.pointer (some a)) = (acells E h a 3).map fun l => .agg l.toArray := by simp only [aload, hE, ag60, sz60]
theorem st60 (hE : E.P = Tryz.prog) {a : Addr} {v : Value} : astore E h 60 (.pointer (some a)) v = if 3 = (vcells v).length then awrite h a (vcells v) else none := by simp [astore, hE, sz60]
theorem al60 : aalloc Tryz.prog ev (.alloc 60) = some (fun b => .pointer (some ⟨b, 0, none⟩), .cells [.int .i64 0, .int .i64 0, .slice none 0 0] 60 true) := by simp [aalloc, zr60, vcells]
theorem fa60_0 {a : Addr} (ha : a.spot = none) : afieldAddr Tryz.prog 60 (.pointer (some a)) 0 = some (.pointer (some ⟨a.block, a.off + 0, none⟩)) := by simp [afieldAddr, Tryz.underlying60, sz57, ha, addo]
theorem fd60_0 {c : Array Value} : afield Tryz.prog 60 (.agg c) 0 = c.toList[0]? := by simp [afield, apart, Tryz.underlying60, ag57]
theorem fa60_1 {a : Addr} (ha : a.spot = none) : afieldAddr Tryz.prog 60 (.pointer (some a)) 1 = some (.pointer (some ⟨a.block, a.off + 1, none⟩)) := by simp [afieldAddr, Tryz.underlying60, sz3, ha, addo]
theorem fd60_1 {c : Array Value} : afield Tryz.prog 60 (.agg c) 1 = c.toList[1]? := by simp [afield, apart, Tryz.underlying60, ag3]
theorem fa60_2 {a : Addr} (ha : a.spot = none) : afieldAddr Tryz.prog 60 (.pointer (some a)) 2 = some (.pointer (some ⟨a.block, a.off + 2, none⟩)) := by simp [afieldAddr, Tryz.underlying60, sz58, ha, addo]
theorem fd60_2 {c : Array Value} : afield Tryz.prog 60 (.agg c) 2 = c.toList[2]? := by simp [afield, apart, Tryz.underlying60, ag58]
theorem bd60 {ps : List (Nat × Value)} : abuild Tryz.prog 60 ps = (afill (fun i => ([(0, 1), (1, 1), (2, 1)] : List (Nat × Nat))[i]?) [.int .i64 0, .int .i64 0, .slice none 0 0] ps).map fun l => .agg l.toArray := by simp [abuild, zr60, Tryz.underlying60, aplaces, sz3, sz57, sz58, vcells]
theorem ld62 (hE : E.P = Tryz.prog) {a : Addr} : aload E h 62 (.pointer (some a)) = (acells E h a 17).map fun l => .agg l.toArray := by simp only [aload, hE, ag62, sz62]
theorem st62 (hE : E.P = Tryz.prog) {a : Addr} {v : Value} : astore E h 62 (.pointer (some a)) v = if 17 = (vcells v).length then awrite h a (vcells v) else none := by simp [astore, hE, sz62]
theorem al62 : aalloc Tryz.prog ev (.alloc 62) = some (fun b => .pointer (some ⟨b, 0, none⟩), .cells [.int .i64 0, .int .i64 0, .int .i64 0, .int .i64 0, .int .i64 0, .int .i64 0, .int .i64 0, .int .i64 0, .int .i64 0, .slice none 0 0, .slice none 0 0, .int .i64 0, .int .i64 0, .string .empty, .int .i64 0, .int .i64 0, .slice none 0 0] 62 true) := by simp [aalloc, zr62, vcells]
theorem fa62_0 {a : Addr} (ha : a.spot = none) : afieldAddr Tryz.prog 62 (.pointer (some a)) 0 = some (.pointer (some ⟨a.block, a.off + 0, none⟩)) := by simp [afieldAddr, Tryz.underlying62, sz3, ha, addo]
theorem fd62_0 {c : Array Value} : afield Tryz.prog 62 (.agg c) 0 = c.toList[0]? := by simp [afield, apart, Tryz.underlying62, ag3]
theorem fa62_1 {a : Addr} (ha : a.spot = none) : afieldAddr Tryz.prog 62 (.pointer (some a)) 1 = some (.pointer (some ⟨a.block, a.off + 1, none⟩)) := by simp [afieldAddr, Tryz.underlying62, sz3, ha, addo]
theorem fd62_1 {c : Array Value} : afield Tryz.prog 62 (.agg c) 1 = c.toList[1]? := by simp [afield, apart, Tryz.underlying62, ag3]
theorem fa62_2 {a : Addr} (ha : a.spot = none) : afieldAddr Tryz.prog 62 (.pointer (some a)) 2 = some (.pointer (some ⟨a.block, a.off + 2, none⟩)) := by simp [afieldAddr, Tryz.underlying62, sz3, ha, addo]
theorem fd62_2 {c : Array Value} : afield Tryz.prog 62 (.agg c) 2 = c.toList[2]? := by simp [afield, apart, Tryz.underlying62, ag3]
theorem fa62_3 {a : Addr} (ha : a.spot = none) : afieldAddr Tryz.prog 62 (.pointer (some a)) 3 = some (.pointer (some ⟨a.block, a.off + 3, none⟩)) := by simp [afieldAddr, Tryz.underlying62, sz3, ha, addo]
theorem fd62_3 {c : Array Value} : afield Tryz.prog 62 (.agg c) 3 = c.toList[3]? := by simp [afield, apart, Tryz.underlying62, ag3]
theorem fa62_4 {a : Addr} (ha : a.spot = none) : afieldAddr Tryz.prog 62 (.pointer (some a)) 4 = some (.pointer (some ⟨a.block, a.off + 4, none⟩)) := by simp [afieldAddr, Tryz.underlying62, sz3, ha, addo]
theorem fd62_4 {c : Array Value} : afield Tryz.prog 62 (.agg c) 4 = c.toList[4]? := by simp [afield, apart, Tryz.underlying62, ag3]
theorem fa62_5 {a : Addr} (ha : a.spot = none) : afieldAddr Tryz.prog 62 (.pointer (some a)) 5 = some (.pointer (some ⟨a.block, a.off + 5, none⟩)) := by simp [afieldAddr, Tryz.underlying62, sz3, ha, addo]
theorem fd62_5 {c : Array Value} : afield Tryz.prog 62 (.agg c) 5 = c.toList[5]? := by simp [afield, apart, Tryz.underlying62, ag3]
theorem fa62_6 {a : Addr} (ha : a.spot = none) : afieldAddr Tryz.prog 62 (.pointer (some a)) 6 = some (.pointer (some ⟨a.block, a.off + 6, none⟩)) := by simp [afieldAddr, Tryz.underlying62, sz3, ha, addo]
theorem fd62_6 {c : Array Value} : afield Tryz.prog 62 (.agg c) 6 = c.toList[6]? := by simp [afield, apart, Tryz.underlying62, ag3]
theorem fa62_7 {a : Addr} (ha : a.spot = none) : afieldAddr Tryz.prog 62 (.pointer (some a)) 7 = some (.pointer (some ⟨a.block, a.off + 7, none⟩)) := by simp [afieldAddr, Tryz.underlying62, sz3, ha, addo]
theorem fd62_7 {c : Array Value} : afield Tryz.prog 62 (.agg c) 7 = c.toList[7]? := by simp [afield, apart, Tryz.underlying62, ag3]
theorem fa62_8 {a : Addr} (ha : a.spot = none) : afieldAddr Tryz.prog 62 (.pointer (some a)) 8 = some (.pointer (some ⟨a.block, a.off + 8, none⟩)) := by simp [afieldAddr, Tryz.underlying62, sz3, ha, addo]
theorem fd62_8 {c : Array Value} : afield Tryz.prog 62 (.agg c) 8 = c.toList[8]? := by simp [afield, apart, Tryz.underlying62, ag3]
theorem fa62_9 {a : Addr} (ha : a.spot = none) : afieldAddr Tryz.prog 62 (.pointer (some a)) 9 = some (.pointer (some ⟨a.block, a.off + 9, none⟩)) := by simp [afieldAddr, Tryz.underlying62, sz36, ha, addo]
theorem fd62_9 {c : Array Value} : afield Tryz.prog 62 (.agg c) 9 = c.toList[9]? := by simp [afield, apart, Tryz.underlying62, ag36]
theorem fa62_10 {a : Addr} (ha : a.spot = none) : afieldAddr Tryz.prog 62 (.pointer (some a)) 10 = some (.pointer (some ⟨a.block, a.off + 10, none⟩)) := by simp [afieldAddr, Tryz.underlying62, sz53, ha, addo]
theorem fd62_10 {c : Array Value} : afield Tryz.prog 62 (.agg c) 10 = c.toList[10]? := by simp [afield, apart, Tryz.underlying62, ag53]
theorem fa62_11 {a : Addr} (ha : a.spot = none) : afieldAddr Tryz.prog 62 (.pointer (some a)) 11 = some (.pointer (some ⟨a.block, a.off + 11, none⟩)) := by simp [afieldAddr, Tryz.underlying62, sz56, ha, addo]
theorem fd62_11 {c : Array Value} : afield Tryz.prog 62 (.agg c) 11 = some (.agg ((c.toList.drop 11).take 3).toArray) := by simp [afield, apart, Tryz.underlying62, ag56, sz56]
theorem fa62_12 {a : Addr} (ha : a.spot = none) : afieldAddr Tryz.prog 62 (.pointer (some a)) 12 = some (.pointer (some ⟨a.block, a.off + 14, none⟩)) := by simp [afieldAddr, Tryz.underlying62, sz60, ha, addo]
theorem fd62_12 {c : Array Value} : afield Tryz.prog 62 (.agg c) 12 = some (.agg ((c.toList.drop 14).take 3).toArray) := by simp [afield, apart, Tryz.underlying62, ag60, sz60]
theorem bd62 {ps : List (Nat × Value)} : abuild Tryz.prog 62 ps = (afill (fun i => ([(0, 1), (1, 1), (2, 1), (3, 1), (4, 1), (5, 1), (6, 1), (7, 1), (8, 1), (9, 1), (10, 1), (11, 3), (14, 3)] : List (Nat × Nat))[i]?) [.int .i64 0, .int .i64 0, .int .i64 0, .int .i64 0, .int .i64 0, .int .i64 0, .int .i64 0, .int .i64 0, .int .i64 0, .slice none 0 0, .slice none 0 0, .int .i64 0, .int .i64 0, .string .empty, .int .i64 0, .int .i64 0, .slice none 0 0] ps).map fun l => .agg l.toArray := by simp [abuild, zr62, Tryz.underlying62, aplaces, sz3, sz36, sz53, sz56, sz60, vcells]
theorem ld66 (hE : E.P = Tryz.prog) {a : Addr} : aload E h 66 (.pointer (some a)) = (acells E h a 19).map fun l => .agg l.toArray := by simp only [aload, hE, ag66, sz66]
theorem st66 (hE : E.P = Tryz.prog) {a : Addr} {v : Value} : astore E h 66 (.pointer (some a)) v = if 19 = (vcells v).length then awrite h a (vcells v) else none := by simp [astore, hE, sz66]
theorem al66 : aalloc Tryz.prog ev (.alloc 66) = some (fun b => .pointer (some ⟨b, 0, none⟩), .cells [.int .i64 0, .int .i64 0, .int .i64 0, .int .i64 0, .int .i64 0, .int .i64 0, .int .i64 0, .int .i64 0, .int .i64 0, .int .i64 0, .int .i64 0, .slice none 0 0, .slice none 0 0, .int .i64 0, .int .i64 0, .string .empty, .int .i64 0, .int .i64 0, .slice none 0 0] 66 true) := by simp [aalloc, zr66, vcells]
theorem fa66_0 {a : Addr} (ha : a.spot = none) : afieldAddr Tryz.prog 66 (.pointer (some a)) 0 = some (.pointer (some ⟨a.block, a.off + 0, none⟩)) := by simp [afieldAddr, Tryz.underlying66, sz3, ha, addo]
theorem fd66_0 {c : Array Value} : afield Tryz.prog 66 (.agg c) 0 = c.toList[0]? := by simp [afield, apart, Tryz.underlying66, ag3]
theorem fa66_1 {a : Addr} (ha : a.spot = none) : afieldAddr Tryz.prog 66 (.pointer (some a)) 1 = some (.pointer (some ⟨a.block, a.off + 1, none⟩)) := by simp [afieldAddr, Tryz.underlying66, sz3, ha, addo]
theorem fd66_1 {c : Array Value} : afield Tryz.prog 66 (.agg c) 1 = c.toList[1]? := by simp [afield, apart, Tryz.underlying66, ag3]
theorem fa66_2 {a : Addr} (ha : a.spot = none) : afieldAddr Tryz.prog 66 (.pointer (some a)) 2 = some (.pointer (some ⟨a.block, a.off + 2, none⟩)) := by simp [afieldAddr, Tryz.underlying66, sz62, ha, addo]
theorem fd66_2 {c : Array Value} : afield Tryz.prog 66 (.agg c) 2 = some (.agg ((c.toList.drop 2).take 17).toArray) := by simp [afield, apart, Tryz.underlying66, ag62, sz62]
theorem bd66 {ps : List (Nat × Value)} : abuild Tryz.prog 66 ps = (afill (fun i => ([(0, 1), (1, 1), (2, 17)] : List (Nat × Nat))[i]?) [.int .i64 0, .int .i64 0, .int .i64 0, .int .i64 0, .int .i64 0, .int .i64 0, .int .i64 0, .int .i64 0, .int .i64 0, .int .i64 0, .int .i64 0, .slice none 0 0, .slice none 0 0, .int .i64 0, .int .i64 0, .string .empty, .int .i64 0, .int .i64 0, .slice none 0 0] ps).map fun l => .agg l.toArray := by simp [abuild, zr66, Tryz.underlying66, aplaces, sz3, sz62, vcells]
theorem ld75 (hE : E.P = Tryz.prog) {a : Addr} : aload E h 75 (.pointer (some a)) = (acells E h a 1).bind fun l => l[0]? := by simp only [aload, hE, ag75]
theorem st75 (hE : E.P = Tryz.prog) {a : Addr} {v : Value} : astore E h 75 (.pointer (some a)) v = if 1 = (vcells v).length then awrite h a (vcells v) else none := by simp [astore, hE, sz75]
theorem al75 : aalloc Tryz.prog ev (.alloc 75) = some (fun b => .pointer (some ⟨b, 0, none⟩), .cells [.nilIface] 75 true) := by simp [aalloc, zr75, vcells]
theorem ld76 (hE : E.P = Tryz.prog) {a : Addr} : aload E h 76 (.pointer (some a)) = (acells E h a 1).bind fun l => l[0]? := by simp only [aload, hE, ag76]
theorem st76 (hE : E.P = Tryz.prog) {a : Addr} {v : Value} : astore E h 76 (.pointer (some a)) v = if 1 = (vcells v).length then awrite h a (vcells v) else none := by simp [astore, hE, sz76]
theorem al76 : aalloc Tryz.prog ev (.alloc 76) = some (fun b => .pointer (some ⟨b, 0, none⟩), .cells [.map none] 76 true) := by simp [aalloc, zr76, vcells]
theorem ld78 (hE : E.P = Tryz.prog) {a : Addr} : aload E h 78 (.pointer (some a)) = (acells E h a 16).map fun l => .agg l.toArray := by simp only [aload, hE, ag78, sz78]
theorem st78 (hE : E.P = Tryz.prog) {a : Addr} {v : Value} : astore E h 78 (.pointer (some a)) v = if 16 = (vcells v).length then awrite h a (vcells v) else none := by simp [astore, hE, sz78]
theorem al78 : aalloc Tryz.prog ev (.alloc 78) = some (fun b => .pointer (some ⟨b, 0, none⟩), .cells [.int .i64 0, .int .i64 0, .nilIface, .int .i64 0, .int .i64 0, .int .i64 0, .int .i64 0, .int .i64 0, .int .i64 0, .int .i64 0, .slice none 0 0, .slice none 0 0, .slice none 0 0, .bool false, .map none, .slice none 0 0] 78 true) := by simp [aalloc, zr78, vcells]
theorem fa78_0 {a : Addr} (ha : a.spot = none) : afieldAddr Tryz.prog 78 (.pointer (some a)) 0 = some (.pointer (some ⟨a.block, a.off + 0, none⟩)) := by simp [afieldAddr, Tryz.underlying78, sz3, ha, addo]
theorem fd78_0 {c : Array Value} : afield Tryz.prog 78 (.agg c) 0 = c.toList[0]? := by simp [afield, apart, Tryz.underlying78, ag3]
theorem fa78_1 {a : Addr} (ha : a.spot = none) : afieldAddr Tryz.prog 78 (.pointer (some a)) 1 = some (.pointer (some ⟨a.block, a.off + 1, none⟩)) := by simp [afieldAddr, Tryz.underlying78, sz3, ha, addo]
theorem fd78_1 {c : Array Value} : afield Tryz.prog 78 (.agg c) 1 = c.toList[1]? := by simp [afield, apart, Tryz.underlying78, ag3]
theorem fa78_2 {a : Addr} (ha : a.spot = none) : afieldAddr Tryz.prog 78 (.pointer (some a)) 2 = some (.pointer (some ⟨a.block, a.off + 2, none⟩)) := by simp [afieldAddr, Tryz.underlying78, sz75, ha, addo]
theorem fd78_2 {c : Array Value} : afield Tryz.prog 78 (.agg c) 2 = c.toList[2]? := by simp [afield, apart, Tryz.underlying78, ag75]
theorem fa78_3 {a : Addr} (ha : a.spot = none) : afieldAddr Tryz.prog 78 (.pointer (some a)) 3 = some (.pointer (some ⟨a.block, a.off + 3, none⟩)) := by simp [afieldAddr, Tryz.underlying78, sz3, ha, addo]
theorem fd78_3 {c : Array Value} : afield Tryz.prog 78 (.agg c) 3 = c.toList[3]? := by simp [afield, apart, Tryz.underlying78, ag3]
theorem fa78_4 {a : Addr} (ha : a.spot = none) : afieldAddr Tryz.prog 78 (.pointer (some a)) 4 = some (.pointer (some ⟨a.block, a.off + 4, none⟩)) := by simp [afieldAddr, Tryz.underlying78, sz3, ha, addo]
theorem fd78_4 {c : Array Value} : afield Tryz.prog 78 (.agg c) 4 = c.toList[4]? := by simp [afield, apart, Tryz.underlying78, ag3]
theorem fa78_5 {a : Addr} (ha : a.spot = none) : afieldAddr Tryz.prog 78 (.pointer (some a)) 5 = some (.pointer (some ⟨a.block, a.off + 5, none⟩)) := by simp [afieldAddr, Tryz.underlying78, sz3, ha, addo]
theorem fd78_5 {c : Array Value} : afield Tryz.prog 78 (.agg c) 5 = c.toList[5]? := by simp [afield, apart, Tryz.underlying78, ag3]
theorem fa78_6 {a : Addr} (ha : a.spot = none) : afieldAddr Tryz.prog 78 (.pointer (some a)) 6 = some (.pointer (some ⟨a.block, a.off + 6, none⟩)) := by simp [afieldAddr, Tryz.underlying78, sz3, ha, addo]
theorem fd78_6 {c : Array Value} : afield Tryz.prog 78 (.agg c) 6 = c.toList[6]? := by simp [afield, apart, Tryz.underlying78, ag3]
theorem fa78_7 {a : Addr} (ha : a.spot = none) : afieldAddr Tryz.prog 78 (.pointer (some a)) 7 = some (.pointer (some ⟨a.block, a.off + 7, none⟩)) := by simp [afieldAddr, Tryz.underlying78, sz3, ha, addo]
theorem fd78_7 {c : Array Value} : afield Tryz.prog 78 (.agg c) 7 = c.toList[7]? := by simp [afield, apart, Tryz.underlying78, ag3]
theorem fa78_8 {a : Addr} (ha : a.spot = none) : afieldAddr Tryz.prog 78 (.pointer (some a)) 8 = some (.pointer (some ⟨a.block, a.off + 8, none⟩)) := by simp [afieldAddr, Tryz.underlying78, sz3, ha, addo]
theorem fd78_8 {c : Array Value} : afield Tryz.prog 78 (.agg c) 8 = c.toList[8]? := by simp [afield, apart, Tryz.underlying78, ag3]
theorem fa78_9 {a : Addr} (ha : a.spot = none) : afieldAddr Tryz.prog 78 (.pointer (some a)) 9 = some (.pointer (some ⟨a.block, a.off + 9, none⟩)) := by simp [afieldAddr, Tryz.underlying78, sz3, ha, addo]
theorem fd78_9 {c : Array Value} : afield Tryz.prog 78 (.agg c) 9 = c.toList[9]? := by simp [afield, apart, Tryz.underlying78, ag3]
theorem fa78_10 {a : Addr} (ha : a.spot = none) : afieldAddr Tryz.prog 78 (.pointer (some a)) 10 = some (.pointer (some ⟨a.block, a.off + 10, none⟩)) := by simp [afieldAddr, Tryz.underlying78, sz36, ha, addo]
theorem fd78_10 {c : Array Value} : afield Tryz.prog 78 (.agg c) 10 = c.toList[10]? := by simp [afield, apart, Tryz.underlying78, ag36]
theorem fa78_11 {a : Addr} (ha : a.spot = none) : afieldAddr Tryz.prog 78 (.pointer (some a)) 11 = some (.pointer (some ⟨a.block, a.off + 11, none⟩)) := by simp [afieldAddr, Tryz.underlying78, sz27, ha, addo]
theorem fd78_11 {c : Array Value} : afield Tryz.prog 78 (.agg c) 11 = c.toList[11]? := by simp [afield, apart, Tryz.underlying78, ag27]
theorem fa78_12 {a : Addr} (ha : a.spot = none) : afieldAddr Tryz.prog 78 (.pointer (some a)) 12 = some (.pointer (some ⟨a.block, a.off + 12, none⟩)) := by simp [afieldAddr, Tryz.underlying78, sz25, ha, addo]
theorem fd78_12 {c : Array Value} : afield Tryz.prog 78 (.agg c) 12 = c.toList[12]? := by simp [afield, apart, Tryz.underlying78, ag25]
theorem fa78_13 {a : Addr} (ha : a.spot = none) : afieldAddr Tryz.prog 78 (.pointer (some a)) 13 = some (.pointer (some ⟨a.block, a.off + 13, none⟩)) := by simp [afieldAddr, Tryz.underlying78, sz4, ha, addo]
theorem fd78_13 {c : Array Value} : afield Tryz.prog 78 (.agg c) 13 = c.toList[13]? := by simp [afield, apart, Tryz.underlying78, ag4]
theorem fa78_14 {a : Addr} (ha : a.spot = none) : afieldAddr Tryz.prog 78 (.pointer (some a)) 14 = some (.pointer (some ⟨a.block, a.off + 14, none⟩)) := by simp [afieldAddr, Tryz.underlying78, sz76, ha, addo]
theorem fd78_14 {c : Array Value} : afield Tryz.prog 78 (.agg c) 14 = c.toList[14]? := by simp [afield, apart, Tryz.underlying78, ag76]
theorem fa78_15 {a : Addr} (ha : a.spot = none) : afieldAddr Tryz.prog 78 (.pointer (some a)) 15 = some (.pointer (some ⟨a.block, a.off + 15, none⟩)) := by simp [afieldAddr, Tryz.underlying78, sz26, ha, addo]
theorem fd78_15 {c : Array Value} : afield Tryz.prog 78 (.agg c) 15 = c.toList[15]? := by simp [afield, apart, Tryz.underlying78, ag26]
theorem bd78 {ps : List (Nat × Value)} : abuild Tryz.prog 78 ps = (afill (fun i => ([(0, 1), (1, 1), (2, 1), (3, 1), (4, 1), (5, 1), (6, 1), (7, 1), (8, 1), (9, 1), (10, 1), (11, 1), (12, 1), (13, 1), (14, 1), (15, 1)] : List (Nat × Nat))[i]?) [.int .i64 0, .int .i64 0, .nilIface, .int .i64 0, .int .i64 0, .int .i64 0, .int .i64 0, .int .i64 0, .int .i64 0, .int .i64 0, .slice none 0 0, .slice none 0 0, .slice none 0 0, .bool false, .map none, .slice none 0 0] ps).map fun l => .agg l.toArray := by simp [abuild, zr78, Tryz.underlying78, aplaces, sz25, sz26, sz27, sz3, sz36, sz4, sz75, sz76, vcells]
theorem ld88 (hE : E.P = Tryz.prog) {a : Addr} : aload E h 88 (.pointer (some a)) = (acells E h a 1).bind fun l => l[0]? := by simp only [aload, hE, ag88]
theorem st88 (hE : E.P = Tryz.prog) {a : Addr} {v : Value} : astore E h 88 (.pointer (some a)) v = if 1 = (vcells v).length then awrite h a (vcells v) else none := by simp [astore, hE, sz88]
theorem al88 : aalloc Tryz.prog ev (.alloc 88) = some (fun b => .pointer (some ⟨b, 0, none⟩), .cells [.nilFunc] 88 true) := by simp [aalloc, zr88, vcells]
theorem ld90 (hE : E.P = Tryz.prog) {a : Addr} : aload E h 90 (.pointer (some a)) = (acells E h a 2).map fun l => .agg l.toArray := by simp only [aload, hE, ag90, sz90]
theorem st90 (hE : E.P = Tryz.prog) {a : Addr} {v : Value} : astore E h 90 (.pointer (some a)) v = if 2 = (vcells v).length then awrite h a (vcells v) else none := by simp [astore, hE, sz90]
theorem al90 : aalloc Tryz.prog ev (.alloc 90) = some (fun b => .pointer (some ⟨b, 0, none⟩), .cells [.nilFunc, .bool false] 90 true) := by simp [aalloc, zr90, vcells]
theorem fa90_0 {a : Addr} (ha : a.spot = none) : afieldAddr Tryz.prog 90 (.pointer (some a)) 0 = some (.pointer (some ⟨a.block, a.off + 0, none⟩)) := by simp [afieldAddr, Tryz.underlying90, sz88, ha, addo]
theorem fd90_0 {c : Array Value} : afield Tryz.prog 90 (.agg c) 0 = c.toList[0]? := by simp [afield, apart, Tryz.underlying90, ag88]
theorem fa90_1 {a : Addr} (ha : a.spot = none) : afieldAddr Tryz.prog 90 (.pointer (some a)) 1 = some (.pointer (some ⟨a.block, a.off + 1, none⟩)) := by simp [afieldAddr, Tryz.underlying90, sz4, ha, addo]
theorem fd90_1 {c : Array Value} : afield Tryz.prog 90 (.agg c) 1 = c.toList[1]? := by simp [afield, apart, Tryz.underlying90, ag4]
theorem bd90 {ps : List (Nat × Value)} : abuild Tryz.prog 90 ps = (afill (fun i => ([(0, 1), (1, 1)] : List (Nat × Nat))[i]?) [.nilFunc, .bool false] ps).map fun l => .agg l.toArray := by simp [abuild, zr90, Tryz.underlying90, aplaces, sz4, sz88, vcells]
theorem ld92 (hE : E.P = Tryz.prog) {a : Addr} : aload E h 92 (.pointer (some a)) = (acells E h a 1).bind fun l => l[0]? := by simp only [aload, hE, ag92]
theorem st92 (hE : E.P = Tryz.prog) {a : Addr} {v : Value} : astore E h 92 (.pointer (some a)) v = if 1 = (vcells v).length then awrite h a (vcells v) else none := by simp [astore, hE, sz92]
theorem al92 : aalloc Tryz.prog ev (.alloc 92) = some (fun b => .pointer (some ⟨b, 0, none⟩), .cells [.map none] 92 true) := by simp [aalloc, zr92, vcells]
theorem ld121 (hE : E.P = Tryz.prog) {a : Addr} : aload E h 121 (.pointer (some a)) = (acells E h a 5).map fun l => .agg l.toArray := by simp only [aload, hE, ag121, sz121]
theorem st121 (hE : E.P = Tryz.prog) {a : Addr} {v : Value} : astore E h 121 (.pointer (some a)) v = if 5 = (vcells v).length then awrite h a (vcells v) else none := by simp [astore, hE, sz121]
theorem al121 : aalloc Tryz.prog ev (.alloc 121) = some (fun b => .pointer (some ⟨b, 0, none⟩), .cells [.int .i64 0, .int .i64 0, .int .i64 0, .int .i64 0, .slice none 0 0] 121 true) := by simp [aalloc, zr121, vcells]
theorem fa121_0 {a : Addr} (ha : a.spot = none) : afieldAddr Tryz.prog 121 (.pointer (some a)) 0 = some (.pointer (some ⟨a.block, a.off + 0, none⟩)) := by simp [afieldAddr, Tryz.underlying121, sz3, ha, addo]
theorem fd121_0 {c : Array Value} : afield Tryz.prog 121 (.agg c) 0 = c.toList[0]? := by simp [afield, apart, Tryz.underlying121, ag3]
theorem fa121_1 {a : Addr} (ha : a.spot = none) : afieldAddr Tryz.prog 121 (.pointer (some a)) 1 = some (.pointer (some ⟨a.block, a.off + 1, none⟩)) := by simp [afieldAddr, Tryz.underlying121, sz3, ha, addo]
theorem fd121_1 {c : Array Value} : afield Tryz.prog 121 (.agg c) 1 = c.toList[1]? := by simp [afield, apart, Tryz.underlying121, ag3]
theorem fa121_2 {a : Addr} (ha : a.spot = none) : afieldAddr Tryz.prog 121 (.pointer (some a)) 2 = some (.pointer (some ⟨a.block, a.off + 2, none⟩)) := by simp [afieldAddr, Tryz.underlying121, sz60, ha, addo]
theorem fd121_2 {c : Array Value} : afield Tryz.prog 121 (.agg c) 2 = some (.agg ((c.toList.drop 2).take 3).toArray) := by simp [afield, apart, Tryz.underlying121, ag60, sz60]
theorem bd121 {ps : List (Nat × Value)} : abuild Tryz.prog 121 ps = (afill (fun i => ([(0, 1), (1, 1), (2, 3)] : List (Nat × Nat))[i]?) [.int .i64 0, .int .i64 0, .int .i64 0, .int .i64 0, .slice none 0 0] ps).map fun l => .agg l.toArray := by simp [abuild, zr121, Tryz.underlying121, aplaces, sz3, sz60, vcells]
theorem ld131 (hE : E.P = Tryz.prog) {a : Addr} : aload E h 131 (.pointer (some a)) = (acells E h a 1).bind fun l => l[0]? := by simp only [aload, hE, ag131]
theorem st131 (hE : E.P = Tryz.prog) {a : Addr} {v : Value} : astore E h 131 (.pointer (some a)) v = if 1 = (vcells v).length then awrite h a (vcells v) else none := by simp [astore, hE, sz131]
theorem al131 : aalloc Tryz.prog ev (.alloc 131) = some (fun b => .pointer (some ⟨b, 0, none⟩), .cells [.nilFunc] 131 true) := by simp [aalloc, zr131, vcells]
theorem ld138 (hE : E.P = Tryz.prog) {a : Addr} : aload E h 138 (.pointer (some a)) = (acells E h a 1).bind fun l => l[0]? := by simp only [aload, hE, ag138]
theorem st138 (hE : E.P = Tryz.prog) {a : Addr} {v : Value} : astore E h 138 (.pointer (some a)) v = if 1 = (vcells v).length then awrite h a (vcells v) else none := by simp [astore, hE, sz138]
theorem al138 : aalloc Tryz.prog ev (.alloc 138) = some (fun b => .pointer (some ⟨b, 0, none⟩), .cells [.nilFunc] 138 true) := by simp [aalloc, zr138, vcells]
theorem ld139 (hE : E.P = Tryz.prog) {a : Addr} : aload E h 139 (.pointer (some a)) = (acells E h a 1).bind fun l => l[0]? := by simp only [aload, hE, ag139]
theorem st139 (hE : E.P = Tryz.prog) {a : Addr} {v : Value} : astore E h 139 (.pointer (some a)) v = if 1 = (vcells v).length then awrite h a (vcells v) else none := by simp [astore, hE, sz139]
theorem al139 : aalloc Tryz.prog ev (.alloc 139) = some (fun b => .pointer (some ⟨b, 0, none⟩), .cells [.slice none 0 0] 139 true) := by simp [aalloc, zr139, vcells]
theorem ia139 {a : Addr} {len cap : Nat} {k : IntKind} {n : Int} (ha : a.spot = none) (h0 : 0 ≤ n) (h1 : n < len) : aindexAddr Tryz.prog 139 (.slice (some a) len cap) (.int k n) = some (.pointer (some ⟨a.block, a.off + n.toNat * 6, none⟩)) := by simp [aindexAddr, Tryz.underlying139, sz143, ha, addo, h0, h1]
theorem le139 {a : Option Addr} {len cap : Nat} : alen Tryz.prog 139 (.slice a len cap) = some (.int .i64 len) := by simp [alen, Tryz.underlying139]
theorem in143 : (Tryz.prog.info? 143).map (fun i => (i.size, i.bytes)) = some (6, 96) := by kernel_rfl
theorem mk139 {k k' : IntKind} {l c : Int} (h0 : 0 ≤ l) (h1 : l ≤ c) (h2 : 96 * c ≤ 281474976710656) (h3 : c ≤ 9223372036854775807) : amk Tryz.prog 139 (.int k l) (.int k' c) = some (fun b => .slice (some ⟨b, 0, none⟩) l.toNat c.toNat, .cells (arep c.toNat [.string .empty, .int .i64 0, .int .i64 0, .string .empty, .slice none 0 0, .slice none 0 0]) 143 true) := makeSlice_at (E := { P := Tryz.prog, base := 0, ro := fun _ => none }) ⟨Tryz.underlying139, in143, ⟨_, zr143, rfl⟩, by decide⟩ ⟨_, zr143, rfl⟩ h0 h1 h2 h3
theorem bs139 {v : Value} (hl : (vcells v).length = 6) : abs1 Tryz.prog 139 1 [(0, v)] = some (fun b => .slice (some ⟨b, 0, none⟩) 1 1, .cells (vcells v) 143 true) := buildSlice_one (E := { P := Tryz.prog, base := 0, ro := fun _ => none }) ⟨Tryz.underlying139, in143, ⟨_, zr143, rfl⟩, by decide⟩ hl (by decide)
theorem el139 (hE : E.P = Tryz.prog) : Elem E 139 143 6 96 := ⟨by rw [hE]; exact Tryz.underlying139, by rw [hE]; exact in143, ⟨_, by rw [hE]; exact zr143, rfl⟩, by decide⟩
theorem ld141 (hE : E.P = Tryz.prog) {a : Addr} : aload E h 141 (.pointer (some a)) = (acells E h a 5).map fun l => .agg l.toArray := by simp only [aload, hE, ag141, sz141]
theorem st141 (hE : E.P = Tryz.prog) {a : Addr} {v : Value} : astore E h 141 (.pointer (some a)) v = if 5 = (vcells v).length then awrite h a (vcells v) else none := by simp [astore, hE, sz141]
theorem al141 : aalloc Tryz.prog ev (.alloc 141) = some (fun b => .pointer (some ⟨b, 0, none⟩), .cells [.int .i64 0, .int .i64 0, .string .empty, .slice none 0 0, .slice none 0 0] 141 true) := by simp [aalloc, zr141, vcells]
theorem fa141_0 {a : Addr} (ha : a.spot = none) : afieldAddr Tryz.prog 141 (.pointer (some a)) 0 = some (.pointer (some ⟨a.block, a.off + 0, none⟩)) := by simp [afieldAddr, Tryz.underlying141, sz3, ha, addo]
theorem fd141_0 {c : Array Value} : afield Tryz.prog 141 (.agg c) 0 = c.toList[0]? := by simp [afield, apart, Tryz.underlying141, ag3]
theorem fa141_1 {a : Addr} (ha : a.spot = none) : afieldAddr Tryz.prog 141 (.pointer (some a)) 1 = some (.pointer (some ⟨a.block, a.off + 1, none⟩)) := by simp [afieldAddr, Tryz.underlying141, sz2, ha, addo]
theorem fd141_1 {c : Array Value} : afield Tryz.prog 141 (.agg c) 1 = c.toList[1]? := by simp [afield, apart, Tryz.underlying141, ag2]
theorem fa141_2 {a : Addr} (ha : a.spot = none) : afieldAddr Tryz.prog 141 (.pointer (some a)) 2 = some (.pointer (some ⟨a.block, a.off + 2, none⟩)) := by simp [afieldAddr, Tryz.underlying141, sz9, ha, addo]
theorem fd141_2 {c : Array Value} : afield Tryz.prog 141 (.agg c) 2 = c.toList[2]? := by simp [afield, apart, Tryz.underlying141, ag9]
theorem fa141_3 {a : Addr} (ha : a.spot = none) : afieldAddr Tryz.prog 141 (.pointer (some a)) 3 = some (.pointer (some ⟨a.block, a.off + 3, none⟩)) := by simp [afieldAddr, Tryz.underlying141, sz58, ha, addo]
theorem fd141_3 {c : Array Value} : afield Tryz.prog 141 (.agg c) 3 = c.toList[3]? := by simp [afield, apart, Tryz.underlying141, ag58]
theorem fa141_4 {a : Addr} (ha : a.spot = none) : afieldAddr Tryz.prog 141 (.pointer (some a)) 4 = some (.pointer (some ⟨a.block, a.off + 4, none⟩)) := by simp [afieldAddr, Tryz.underlying141, sz139, ha, addo]
theorem fd141_4 {c : Array Value} : afield Tryz.prog 141 (.agg c) 4 = c.toList[4]? := by simp [afield, apart, Tryz.underlying141, ag139]
theorem bd141 {ps : List (Nat × Value)} : abuild Tryz.prog 141 ps = (afill (fun i => ([(0, 1), (1, 1), (2, 1), (3, 1), (4, 1)] : List (Nat × Nat))[i]?) [.int .i64 0, .int .i64 0, .string .empty, .slice none 0 0, .slice none 0 0] ps).map fun l => .agg l.toArray := by simp [abuild, zr141, Tryz.underlying141, aplaces, sz139, sz2, sz3, sz58, sz9, vcells]
theorem ld143 (hE : E.P = Tryz.prog) {a : Addr} : aload E h 143 (.pointer (some a)) = (acells E h a 6).map fun l => .agg l.toArray := by simp only [aload, hE, ag143, sz143]
theorem st143 (hE : E.P = Tryz.prog) {a : Addr} {v : Value} : astore E h 143 (.pointer (some a)) v = if 6 = (vcells v).length then awrite h a (vcells v) else none := by simp [astore, hE, sz143]
theorem al143 : aalloc Tryz.prog ev (.alloc 143) = some (fun b => .pointer (some ⟨b, 0, none⟩), .cells [.string .empty, .int .i64 0, .int .i64 0, .string .empty, .slice none 0 0, .slice none 0 0] 143 true) := by simp [aalloc, zr143, vcells]
theorem fa143_0 {a : Addr} (ha : a.spot = none) : afieldAddr Tryz.prog 143 (.pointer (some a)) 0 = some (.pointer (some ⟨a.block, a.off + 0, none⟩)) := by simp [afieldAddr, Tryz.underlying143, sz9, ha, addo]
theorem fd143_0 {c : Array Value} : afield Tryz.prog 143 (.agg c) 0 = c.toList[0]? := by simp [afield, apart, Tryz.underlying143, ag9]
theorem fa143_1 {a : Addr} (ha : a.spot = none) : afieldAddr Tryz.prog 143 (.pointer (some a)) 1 = some (.pointer (some ⟨a.block, a.off + 1, none⟩)) := by simp [afieldAddr, Tryz.underlying143, sz141, ha, addo]
theorem fd143_1 {c : Array Value} : afield Tryz.prog 143 (.agg c) 1 = some (.agg ((c.toList.drop 1).take 5).toArray) := by simp [afield, apart, Tryz.underlying143, ag141, sz141]
theorem bd143 {ps : List (Nat × Value)} : abuild Tryz.prog 143 ps = (afill (fun i => ([(0, 1), (1, 5)] : List (Nat × Nat))[i]?) [.string .empty, .int .i64 0, .int .i64 0, .string .empty, .slice none 0 0, .slice none 0 0] ps).map fun l => .agg l.toArray := by simp [abuild, zr143, Tryz.underlying143, aplaces, sz141, sz9, vcells]
theorem ld151 (hE : E.P = Tryz.prog) {a : Addr} : aload E h 151 (.pointer (some a)) = (acells E h a 1).bind fun l => l[0]? := by simp only [aload, hE, ag151]
theorem st151 (hE : E.P = Tryz.prog) {a : Addr} {v : Value} : astore E h 151 (.pointer (some a)) v = if 1 = (vcells v).length then awrite h a (vcells v) else none := by simp [astore, hE, sz151]
theorem al151 : aalloc Tryz.prog ev (.alloc 151) = some (fun b => .pointer (some ⟨b, 0, none⟩), .cells [.int .u64 0] 151 true) := by simp [aalloc, zr151, vcells]
theorem ld152 (hE : E.P = Tryz.prog) {a : Addr} : aload E h 152 (.pointer (some a)) = (acells E h a 1).bind fun l => l[0]? := by simp only [aload, hE, ag152]
theorem st152 (hE : E.P = Tryz.prog) {a : Addr} {v : Value} : astore E h 152 (.pointer (some a)) v = if 1 = (vcells v).length then awrite h a (vcells v) else none := by simp [astore, hE, sz152]
theorem al152 : aalloc Tryz.prog ev (.alloc 152) = some (fun b => .pointer (some ⟨b, 0, none⟩), .cells [.int .u32 0] 152 true) := by simp [aalloc, zr152, vcells]
theorem ld157 (hE : E.P = Tryz.prog) {a : Addr} : aload E h 157 (.pointer (some a)) = (acells E h a 1).bind fun l => l[0]? := by simp only [aload, hE, ag157]
theorem st157 (hE : E.P = Tryz.prog) {a : Addr} {v : Value} : astore E h 157 (.pointer (some a)) v = if 1 = (vcells v).length then awrite h a (vcells v) else none := by simp [astore, hE, sz157]
theorem al157 : aalloc Tryz.prog ev (.alloc 157) = some (fun b => .pointer (some ⟨b, 0, none⟩), .cells [.int .u64 0] 157 true) := by simp [aalloc, zr157, vcells]
theorem ld164 (hE : E.P = Tryz.prog) {a : Addr} : aload E h 164 (.pointer (some a)) = (acells E h a 3).map fun l => .agg l.toArray := by simp only [aload, hE, ag164, sz164]
theorem st164 (hE : E.P = Tryz.prog) {a : Addr} {v : Value} : astore E h 164 (.pointer (some a)) v = if 3 = (vcells v).length then awrite h a (vcells v) else none := by simp [astore, hE, sz164]
theorem al164 : aalloc Tryz.prog ev (.alloc 164) = some (fun b => .pointer (some ⟨b, 0, none⟩), .cells [.int .u64 0, .int .u64 0, .int .u64 0] 164 true) := by simp [aalloc, zr164, vcells]
theorem ld168 (hE : E.P = Tryz.prog) {a : Addr} : aload E h 168 (.pointer (some a)) = (acells E h a 1).bind fun l => l[0]? := by simp only [aload, hE, ag168]
theorem st168 (hE : E.P = Tryz.prog) {a : Addr} {v : Value} : astore E h 168 (.pointer (some a)) v = if 1 = (vcells v).length then awrite h a (vcells v) else none := by simp [astore, hE, sz168]
theorem al168 : aalloc Tryz.prog ev (.alloc 168) = some (fun b => .pointer (some ⟨b, 0, none⟩), .cells [.int .i64 0] 168 true) := by simp [aalloc, zr168, vcells]
theorem ld183 (hE : E.P = Tryz.prog) {a : Addr} : aload E h 183 (.pointer (some a)) = (acells E h a 1).bind fun l => l[0]? := by simp only [aload, hE, ag183]
theorem st183 (hE : E.P = Tryz.prog) {a : Addr} {v : Value} : astore E h 183 (.pointer (some a)) v = if 1 = (vcells v).length then awrite h a (vcells v) else none := by simp [astore, hE, sz183]
theorem al183 : aalloc Tryz.prog ev (.alloc 183) = some (fun b => .pointer (some ⟨b, 0, none⟩), .cells [.slice none 0 0] 183 true) := by simp [aalloc, zr183, vcells]
theorem ia183 {a : Addr} {len cap : Nat} {k : IntKind} {n : Int} (ha : a.spot = none) (h0 : 0 ≤ n) (h1 : n < len) : aindexAddr Tryz.prog 183 (.slice (some a) len cap) (.int k n) = some (.pointer (some ⟨a.block, a.off + n.toNat * 1, none⟩)) := by simp [aindexAddr, Tryz.underlying183, sz9, ha, addo, h0, h1]
theorem le183 {a : Option Addr} {len cap : Nat} : alen Tryz.prog 183 (.slice a len cap) = some (.int .i64 len) := by simp [alen, Tryz.underlying183]
theorem in9 : (Tryz.prog.info? 9).map (fun i => (i.size, i.bytes)) = some (1, 16) := by kernel_rfl
theorem mk183 {k k' : IntKind} {l c : Int} (h0 : 0 ≤ l) (h1 : l ≤ c) (h2 : 16 * c ≤ 281474976710656) (h3 : c ≤ 9223372036854775807) : amk Tryz.prog 183 (.int k l) (.int k' c) = some (fun b => .slice (some ⟨b, 0, none⟩) l.toNat c.toNat, .cells (arep c.toNat [.string .empty]) 9 true) := makeSlice_at (E := { P := Tryz.prog, base := 0, ro := fun _ => none }) ⟨Tryz.underlying183, in9, ⟨_, zr9, rfl⟩, by decide⟩ ⟨_, zr9, rfl⟩ h0 h1 h2 h3
theorem bs183 {v : Value} (hl : (vcells v).length = 1) : abs1 Tryz.prog 183 1 [(0, v)] = some (fun b => .slice (some ⟨b, 0, none⟩) 1 1, .cells (vcells v) 9 true) := buildSlice_one (E := { P := Tryz.prog, base := 0, ro := fun _ => none }) ⟨Tryz.underlying183, in9, ⟨_, zr9, rfl⟩, by decide⟩ hl (by decide)
theorem el183 (hE : E.P = Tryz.prog) : Elem E 183 9 1 16 := ⟨by rw [hE]; exact Tryz.underlying183, by rw [hE]; exact in9, ⟨_, by rw [hE]; exact zr9, rfl⟩, by decide⟩
theorem ld204 (hE : E.P = Tryz.prog) {a : Addr} : aload E h 204 (.pointer (some a)) = (acells E h a 3).map fun l => .agg l.toArray := by simp only [aload, hE, ag204, sz204]
theorem st204 (hE : E.P = Tryz.prog) {a : Addr} {v : Value} : astore E h 204 (.pointer (some a)) v = if 3 = (vcells v).length then awrite h a (vcells v) else none := by simp [astore, hE, sz204]
theorem al204 : aalloc Tryz.prog ev (.alloc 204) = some (fun b => .pointer (some ⟨b, 0, none⟩), .cells [.string .empty, .slice none 0 0, .slice none 0 0] 204 true) := by simp [aalloc, zr204, vcells]
theorem fa204_0 {a : Addr} (ha : a.spot = none) : afieldAddr Tryz.prog 204 (.pointer (some a)) 0 = some (.pointer (some ⟨a.block, a.off + 0, none⟩)) := by simp [afieldAddr, Tryz.underlying204, sz9, ha, addo]
theorem fd204_0 {c : Array Value} : afield Tryz.prog 204 (.agg c) 0 = c.toList[0]? := by simp [afield, apart, Tryz.underlying204, ag9]
theorem fa204_1 {a : Addr} (ha : a.spot = none) : afieldAddr Tryz.prog 204 (.pointer (some a)) 1 = some (.pointer (some ⟨a.block, a.off + 1, none⟩)) := by simp [afieldAddr, Tryz.underlying204, sz58, ha, addo]
theorem fd204_1 {c : Array Value} : afield Tryz.prog 204 (.agg c) 1 = c.toList[1]? := by simp [afield, apart, Tryz.underlying204, ag58]
theorem fa204_2 {a : Addr} (ha : a.spot = none) : afieldAddr Tryz.prog 204 (.pointer (some a)) 2 = some (.pointer (some ⟨a.block, a.off + 2, none⟩)) := by simp [afieldAddr, Tryz.underlying204, sz183, ha, addo]
theorem fd204_2 {c : Array Value} : afield Tryz.prog 204 (.agg c) 2 = c.toList[2]? := by simp [afield, apart, Tryz.underlying204, ag183]
theorem bd204 {ps : List (Nat × Value)} : abuild Tryz.prog 204 ps = (afill (fun i => ([(0, 1), (1, 1), (2, 1)] : List (Nat × Nat))[i]?) [.string .empty, .slice none 0 0, .slice none 0 0] ps).map fun l => .agg l.toArray := by simp [abuild, zr204, Tryz.underlying204, aplaces, sz183, sz58, sz9, vcells]
variable {O l : List Oper} {Q R : Cont} {tm : Tr Value} {d : Option Nat} {x : Operand}
theorem wlen9 (hE : E.P = Tryz.prog) : wop1 E (.call ⟨.builtin .len, #[x], #[9]⟩) d R tm h = kpure (alen Tryz.prog 9 (opd tm x)) d R tm h := by rw [wop_len (by rw [hE]; exact Tryz.underlying9) rfl, hE]
theorem le9 {s : ByteArray} : alen Tryz.prog 9 (.string s) = some (.int .i64 s.size) := by simp [alen, Tryz.underlying9]
theorem wlen22 (hE : E.P = Tryz.prog) : wop1 E (.call ⟨.builtin .len, #[x], #[22]⟩) d R tm h = kpure (alen Tryz.prog 22 (opd tm x)) d R tm h := by rw [wop_len (by rw [hE]; exact Tryz.underlying22) rfl, hE]
theorem wlen24 (hE : E.P = Tryz.prog) : wop1 E (.call ⟨.builtin .len, #[x], #[24]⟩) d R tm h = kpure (alen Tryz.prog 24 (opd tm x)) d R tm h := by rw [wop_len (by rw [hE]; exact Tryz.underlying24) rfl, hE]
theorem wlen25 (hE : E.P = Tryz.prog) : wop1 E (.call ⟨.builtin .len, #[x], #[25]⟩) d R tm h = kpure (alen Tryz.prog 25 (opd tm x)) d R tm h := by rw [wop_len (by rw [hE]; exact Tryz.underlying25) rfl, hE]
theorem wlen26 (hE : E.P = Tryz.prog) : wop1 E (.call ⟨.builtin .len, #[x], #[26]⟩) d R tm h = kpure (alen Tryz.prog 26 (opd tm x)) d R tm h := by rw [wop_len (by rw [hE]; exact Tryz.underlying26) rfl, hE]
theorem wlen27 (hE : E.P = Tryz.prog) : wop1 E (.call ⟨.builtin .len, #[x], #[27]⟩) d R tm h = kpure (alen Tryz.prog 27 (opd tm x)) d R tm h := by rw [wop_len (by rw [hE]; exact Tryz.underlying27) rfl, hE]
theorem wlen36 (hE : E.P = Tryz.prog) : wop1 E (.call ⟨.builtin .len, #[x], #[36]⟩) d R tm h = kpure (alen Tryz.prog 36 (opd tm x)) d R tm h := by rw [wop_len (by rw [hE]; exact Tryz.underlying36) rfl, hE]
theorem wlen40 (hE : E.P = Tryz.prog) : wop1 E (.call ⟨.builtin .len, #[x], #[40]⟩) d R tm h = kpure (alen Tryz.prog 40 (opd tm x)) d R tm h := by rw [wop_len (by rw [hE]; exact Tryz.underlying40) rfl, hE]
theorem wlen53 (hE : E.P = Tryz.prog) : wop1 E (.call ⟨.builtin .len, #[x], #[53]⟩) d R tm h = kpure (alen Tryz.prog 53 (opd tm x)) d R tm h := by rw [wop_len (by rw [hE]; exact Tryz.underlying53) rfl, hE]
theorem wlen58 (hE : E.P = Tryz.prog) : wop1 E (.call ⟨.builtin .len, #[x], #[58]⟩) d R tm h = kpure (alen Tryz.prog 58 (opd tm x)) d R tm h := by rw [wop_len (by rw [hE]; exact Tryz.underlying58) rfl, hE]
theorem wlen139 (hE : E.P = Tryz.prog) : wop1 E (.call ⟨.builtin .len, #[x], #[139]⟩) d R tm h = kpure (alen Tryz.prog 139 (opd tm x)) d R tm h := by rw [wop_len (by rw [hE]; exact Tryz.underlying139) rfl, hE]
theorem wcv3_151 (hE : E.P = Tryz.prog) : wop1 E (.convert 3 151 x) d R tm h = kpure (aconv Tryz.prog 3 151 (opd tm x)) d R tm h := by rw [wop_convert (by rw [hE]; exact Tryz.underlying3) rfl, hE]
theorem wcv3_152 (hE : E.P = Tryz.prog) : wop1 E (.convert 3 152 x) d R tm h = kpure (aconv Tryz.prog 3 152 (opd tm x)) d R tm h := by rw [wop_convert (by rw [hE]; exact Tryz.underlying3) rfl, hE]
theorem wcv3_157 (hE : E.P = Tryz.prog) : wop1 E (.convert 3 157 x) d R tm h = kpure (aconv Tryz.prog 3 157 (opd tm x)) d R tm h := by rw [wop_convert (by rw [hE]; exact Tryz.underlying3) rfl, hE]
theorem wcv5_3 (hE : E.P = Tryz.prog) : wop1 E (.convert 5 3 x) d R tm h = kpure (aconv Tryz.prog 5 3 (opd tm x)) d R tm h := by rw [wop_convert (by rw [hE]; exact Tryz.underlying5) rfl, hE]
theorem wcv5_151 (hE : E.P = Tryz.prog) : wop1 E (.convert 5 151 x) d R tm h = kpure (aconv Tryz.prog 5 151 (opd tm x)) d R tm h := by rw [wop_convert (by rw [hE]; exact Tryz.underlying5) rfl, hE]
theorem wcv21_3 (hE : E.P = Tryz.prog) : wop1 E (.convert 21 3 x) d R tm h = kpure (aconv Tryz.prog 21 3 (opd tm x)) d R tm h := by rw [wop_convert (by rw [hE]; exact Tryz.underlying21) rfl, hE]
theorem wcv53_9 (hE : E.P = Tryz.prog) : wop1 E (.convert 53 9 x) d R tm h = kpure (aread E h (opd tm) (.convert 53 9 x)) d R tm h := by rw [wop_convertB (by rw [hE]; exact Tryz.underlying53)]
theorem wcv151_3 (hE : E.P = Tryz.prog) : wop1 E (.convert 151 3 x) d R tm h = kpure (aconv Tryz.prog 151 3 (opd tm x)) d R tm h := by rw [wop_convert (by rw [hE]; exact Tryz.underlying151) rfl, hE]
theorem wcv151_5 (hE : E.P = Tryz.prog) : wop1 E (.convert 151 5 x) d R tm h = kpure (aconv Tryz.prog 151 5 (opd tm x)) d R tm h := by rw [wop_convert (by rw [hE]; exact Tryz.underlying151) rfl, hE]
theorem wcv151_152 (hE : E.P = Tryz.prog) : wop1 E (.convert 151 152 x) d R tm h = kpure (aconv Tryz.prog 151 152 (opd tm x)) d R tm h := by rw [wop_convert (by rw [hE]; exact Tryz.underlying151) rfl, hE]
theorem wcv152_21 (hE : E.P = Tryz.prog) : wop1 E (.convert 152 21 x) d R tm h = kpure (aconv Tryz.prog 152 21 (opd tm x)) d R tm h := by rw [wop_convert (by rw [hE]; exact Tryz.underlying152) rfl, hE]
theorem wcv152_151 (hE : E.P = Tryz.prog) : wop1 E (.convert 152 151 x) d R tm h = kpure (aconv Tryz.prog 152 151 (opd tm x)) d R tm h := by rw [wop_convert (by rw [hE]; exact Tryz.underlying152) rfl, hE]
theorem wcv157_152 (hE : E.P = Tryz.prog) : wop1 E (.convert 157 152 x) d R tm h = kpure (aconv Tryz.prog 157 152 (opd tm x)) d R tm h := by rw [wop_convert (by rw [hE]; exact Tryz.underlying157) rfl, hE]
attribute [push_cast] ld2 st2 al2 ld3 st3 al3 ld4 st4 al4 ld5 st5 al5 ld9 st9 al9 ld20 st20 al20 ld21 st21 al21 ld22 st22 al22 le22 ld24 st24 al24 le24 ld25 st25 al25 le25 ld26 st26 al26 le26 ld27 st27 al27 le27 ld29 st29 al29 fa29_0 fd29_0 fa29_1 fd29_1 fa29_2 fd29_2 fa29_3 fd29_3 fa29_4 fd29_4 bd29 ld34 st34 al34 fa34_0 fd34_0 fa34_1 fd34_1 fa34_2 fd34_2 bd34 ld36 st36 al36 le36 ld37 st37 al37 le37 ld39 st39 al39 fa39_0 fd39_0 bd39 ld40 st40 al40 le40 ld42 st42 al42 fa42_0 fd42_0 fa42_1 fd42_1 fa42_2 fd42_2 fa42_3 fd42_3 bd42 ld44 st44 al44 fa44_0 fd44_0 bd44 ld45 st45 al45 ld46 st46 al46 ld48 st48 al48 fa48_0 fd48_0 fa48_1 fd48_1 fa48_2 fd48_2 fa48_3 fd48_3 fa48_4 fd48_4 fa48_5 fd48_5 fa48_6 fd48_6 fa48_7 fd48_7 fa48_8 fd48_8 fa48_9 fd48_9 fa48_10 fd48_10 fa48_11 fd48_11 fa48_12 fd48_12 fa48_13 fd48_13 fa48_14 fd48_14 bd48 ld50 st50 al50 fa50_0 fd50_0 fa50_1 fd50_1 fa50_2 fd50_2 bd50 ld53 st53 al53 le53 ld54 st54 al54 ld56 st56 al56 fa56_0 fd56_0 fa56_1 fd56_1 fa56_2 fd56_2 bd56 ld57 st57 al57 ld58 st58 al58 le58 ld60 st60 al60 fa60_0 fd60_0 fa60_1 fd60_1 fa60_2 fd60_2 bd60 ld62 st62 al62 fa62_0 fd62_0 fa62_1 fd62_1 fa62_2 fd62_2 fa62_3 fd62_3 fa62_4 fd62_4 fa62_5 fd62_5 fa62_6 fd62_6 fa62_7 fd62_7 fa62_8 fd62_8 fa62_9 fd62_9 fa62_10 fd62_10 fa62_11 fd62_11 fa62_12 fd62_12 bd62 ld66 st66 al66 fa66_0 fd66_0 fa66_1 fd66_1 fa66_2 fd66_2 bd66 ld75 st75 al75 ld76 st76 al76 ld78 st78 al78 fa78_0 fd78_0 fa78_1 fd78_1 fa78_2 fd78_2 fa78_3 fd78_3 fa78_4 fd78_4 fa78_5 fd78_5 fa78_6 fd78_6 fa78_7 fd78_7 fa78_8 fd78_8 fa78_9 fd78_9 fa78_10 fd78_10 fa78_11 fd78_11 fa78_12 fd78_12 fa78_13 fd78_13 fa78_14 fd78_14 fa78_15 fd78_15 bd78 ld88 st88 al88 ld90 st90 al90 fa90_0 fd90_0 fa90_1 fd90_1 bd90 ld92 st92 al92 ld121 st121 al121 fa121_0 fd121_0 fa121_1 fd121_1 fa121_2 fd121_2 bd121 ld131 st131 al131 ld138 st138 al138 ld139 st139 al139 le139 ld141 st141 al141 fa141_0 fd141_0 fa141_1 fd141_1 fa141_2 fd141_2 fa141_3 fd141_3 fa141_4 fd141_4 bd141 ld143 st143 al143 fa143_0 fd143_0 fa143_1 fd143_1 bd143 ld151 st151 al151 ld152 st152 al152 ld157 st157 al157 ld164 st164 al164 ld168 st168 al168 ld183 st183 al183 le183 ld204 st204 al204 fa204_0 fd204_0 fa204_1 fd204_1 fa204_2 fd204_2 bd204 wlen9 le9 wlen22 wlen24 wlen25 wlen26 wlen27 wlen36 wlen40 wlen53 wlen58 wlen139 wcv3_151 wcv3_152 wcv3_157 wcv5_3 wcv5_151 wcv21_3 wcv53_9 wcv151_3 wcv151_5 wcv151_152 wcv152_21 wcv152_151 wcv157_152 Tryz.underlying3 Tryz.underlying5 Tryz.underlying9 Tryz.underlying21 Tryz.underlying26 Tryz.underlying36 Tryz.underlying40 Tryz.underlying53 Tryz.underlying151 Tryz.underlying152 Tryz.underlying157
end
end Go.Proofs.YthdgobcpefcolaaGreatDoor
