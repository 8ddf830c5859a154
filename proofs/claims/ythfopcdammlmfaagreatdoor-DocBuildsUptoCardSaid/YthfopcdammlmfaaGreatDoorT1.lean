/- The facts on the types of this program, one by one, each by the kernel. (Printed by a program of ours.) -/
import Derived.Test.YthfopcdammlmfaaGreatDoorA8
import Derived.Test.YthfopcdammlmfaaGreatDoorChecked
set_option maxRecDepth 10000
set_option linter.all false
set_option linter.unusedSimpArgs false
set_option linter.unusedVariables false
namespace Go.Proofs.YthfopcdammlmfaaGreatDoor
open Go.Tm
/-- What is known of calls of the library. -/
def knownT : FuncId → List Value → Option Value := fun f args => if f = 165 then (match args with | [.string s] => if s.size ≤ 9223372036854775807 then some (.bool (Lib.validD s.data.toList)) else none | _ => none) else none
structure EOk (E : Env) : Prop where
  P : E.P = Tryz.prog
  known : E.known = knownT
section
variable {E : Env} {h : Heap} {b o : Nat} {ev : Operand → Value}
theorem sz2 : asz Tryz.prog 2 = some 1 := by kernel_rfl
theorem ag2 : aagg Tryz.prog 2 = some false := by kernel_rfl
theorem zr2 : azero Tryz.prog 2 = some (.int .i64 0) := by kernel_rfl
theorem sz3 : asz Tryz.prog 3 = some 1 := by kernel_rfl
theorem ag3 : aagg Tryz.prog 3 = some false := by kernel_rfl
theorem zr3 : azero Tryz.prog 3 = some (.int .i64 0) := by kernel_rfl
theorem sz4 : asz Tryz.prog 4 = some 1 := by kernel_rfl
theorem ag4 : aagg Tryz.prog 4 = some false := by kernel_rfl
theorem zr4 : azero Tryz.prog 4 = some (.bool false) := by kernel_rfl
theorem sz5 : asz Tryz.prog 5 = some 1 := by kernel_rfl
theorem ag5 : aagg Tryz.prog 5 = some false := by kernel_rfl
theorem zr5 : azero Tryz.prog 5 = some (.int .u8 0) := by kernel_rfl
theorem sz9 : asz Tryz.prog 9 = some 1 := by kernel_rfl
theorem ag9 : aagg Tryz.prog 9 = some false := by kernel_rfl
theorem zr9 : azero Tryz.prog 9 = some (.string .empty) := by kernel_rfl
theorem sz16 : asz Tryz.prog 16 = some 1 := by kernel_rfl
theorem ag16 : aagg Tryz.prog 16 = some false := by kernel_rfl
theorem zr16 : azero Tryz.prog 16 = some (.pointer none) := by kernel_rfl
theorem sz21 : asz Tryz.prog 21 = some 1 := by kernel_rfl
theorem ag21 : aagg Tryz.prog 21 = some false := by kernel_rfl
theorem zr21 : azero Tryz.prog 21 = some (.int .i32 0) := by kernel_rfl
theorem sz22 : asz Tryz.prog 22 = some 1 := by kernel_rfl
theorem ag22 : aagg Tryz.prog 22 = some false := by kernel_rfl
theorem zr22 : azero Tryz.prog 22 = some (.slice none 0 0) := by kernel_rfl
theorem sz23 : asz Tryz.prog 23 = some 1 := by kernel_rfl
theorem ag23 : aagg Tryz.prog 23 = some false := by kernel_rfl
theorem zr23 : azero Tryz.prog 23 = some (.slice none 0 0) := by kernel_rfl
theorem sz25 : asz Tryz.prog 25 = some 5 := by kernel_rfl
theorem ag25 : aagg Tryz.prog 25 = some true := by kernel_rfl
theorem zr25 : azero Tryz.prog 25 = some (.agg #[.int .i64 0, .int .i64 0, .string .empty, .slice none 0 0, .slice none 0 0]) := by kernel_rfl
theorem sz28 : asz Tryz.prog 28 = some 1 := by kernel_rfl
theorem ag28 : aagg Tryz.prog 28 = some false := by kernel_rfl
theorem zr28 : azero Tryz.prog 28 = some (.pointer none) := by kernel_rfl
theorem sz30 : asz Tryz.prog 30 = some 1 := by kernel_rfl
theorem ag30 : aagg Tryz.prog 30 = some false := by kernel_rfl
theorem zr30 : azero Tryz.prog 30 = some (.int .i64 0) := by kernel_rfl
theorem sz33 : asz Tryz.prog 33 = some 1 := by kernel_rfl
theorem ag33 : aagg Tryz.prog 33 = some false := by kernel_rfl
theorem zr33 : azero Tryz.prog 33 = some (.int .u64 0) := by kernel_rfl
theorem sz37 : asz Tryz.prog 37 = some 1 := by kernel_rfl
theorem ag37 : aagg Tryz.prog 37 = some false := by kernel_rfl
theorem zr37 : azero Tryz.prog 37 = some (.pointer none) := by kernel_rfl
theorem sz42 : asz Tryz.prog 42 = some 1 := by kernel_rfl
theorem ag42 : aagg Tryz.prog 42 = some false := by kernel_rfl
theorem zr42 : azero Tryz.prog 42 = some (.pointer none) := by kernel_rfl
theorem sz50 : asz Tryz.prog 50 = some 1 := by kernel_rfl
theorem ag50 : aagg Tryz.prog 50 = some false := by kernel_rfl
theorem zr50 : azero Tryz.prog 50 = some (.slice none 0 0) := by kernel_rfl
theorem sz66 : asz Tryz.prog 66 = some 1 := by kernel_rfl
theorem ag66 : aagg Tryz.prog 66 = some false := by kernel_rfl
theorem zr66 : azero Tryz.prog 66 = some (.slice none 0 0) := by kernel_rfl
theorem sz79 : asz Tryz.prog 79 = some 1 := by kernel_rfl
theorem ag79 : aagg Tryz.prog 79 = some true := by kernel_rfl
theorem zr79 : azero Tryz.prog 79 = some (.agg #[.pointer none]) := by kernel_rfl
theorem sz81 : asz Tryz.prog 81 = some 1 := by kernel_rfl
theorem ag81 : aagg Tryz.prog 81 = some false := by kernel_rfl
theorem zr81 : azero Tryz.prog 81 = some (.nilFunc) := by kernel_rfl
theorem sz82 : asz Tryz.prog 82 = some 16 := by kernel_rfl
theorem ag82 : aagg Tryz.prog 82 = some true := by kernel_rfl
theorem zr82 : azero Tryz.prog 82 = some (.agg #[.int .u64 0, .int .u64 0, .int .u64 0, .int .u64 0, .int .u64 0, .int .u64 0, .int .u64 0, .int .u64 0, .int .u64 0, .int .u64 0, .int .u64 0, .int .u64 0, .int .u64 0, .int .u64 0, .int .u64 0, .int .u64 0]) := by kernel_rfl
theorem sz84 : asz Tryz.prog 84 = some 1 := by kernel_rfl
theorem ag84 : aagg Tryz.prog 84 = some false := by kernel_rfl
theorem zr84 : azero Tryz.prog 84 = some (.nilIface) := by kernel_rfl
theorem sz86 : asz Tryz.prog 86 = some 19 := by kernel_rfl
theorem ag86 : aagg Tryz.prog 86 = some true := by kernel_rfl
theorem zr86 : azero Tryz.prog 86 = some (.agg #[.pointer none, .pointer none, .int .u64 0, .int .u64 0, .int .u64 0, .int .u64 0, .int .u64 0, .int .u64 0, .int .u64 0, .int .u64 0, .int .u64 0, .int .u64 0, .int .u64 0, .int .u64 0, .int .u64 0, .int .u64 0, .int .u64 0, .int .u64 0, .nilIface]) := by kernel_rfl
theorem sz88 : asz Tryz.prog 88 = some 6 := by kernel_rfl
theorem ag88 : aagg Tryz.prog 88 = some true := by kernel_rfl
theorem zr88 : azero Tryz.prog 88 = some (.agg #[.slice none 0 0, .slice none 0 0, .int .i64 0, .int .i64 0, .int .i64 0, .bool false]) := by kernel_rfl
theorem sz91 : asz Tryz.prog 91 = some 6 := by kernel_rfl
theorem ag91 : aagg Tryz.prog 91 = some true := by kernel_rfl
theorem zr91 : azero Tryz.prog 91 = some (.agg #[.string .empty, .int .i64 0, .int .i64 0, .string .empty, .slice none 0 0, .slice none 0 0]) := by kernel_rfl
theorem sz92 : asz Tryz.prog 92 = some 1 := by kernel_rfl
theorem ag92 : aagg Tryz.prog 92 = some false := by kernel_rfl
theorem zr92 : azero Tryz.prog 92 = some (.slice none 0 0) := by kernel_rfl
theorem sz94 : asz Tryz.prog 94 = some 4 := by kernel_rfl
theorem ag94 : aagg Tryz.prog 94 = some true := by kernel_rfl
theorem zr94 : azero Tryz.prog 94 = some (.agg #[.slice none 0 0, .int .i64 0, .int .i64 0, .int .i64 0]) := by kernel_rfl
theorem sz99 : asz Tryz.prog 99 = some 1 := by kernel_rfl
theorem ag99 : aagg Tryz.prog 99 = some false := by kernel_rfl
theorem zr99 : azero Tryz.prog 99 = some (.nilFunc) := by kernel_rfl
theorem sz103 : asz Tryz.prog 103 = some 5 := by kernel_rfl
theorem ag103 : aagg Tryz.prog 103 = some true := by kernel_rfl
theorem zr103 : azero Tryz.prog 103 = some (.agg #[.int .i64 0, .int .i64 0, .int .i64 0, .bool false, .int .i64 0]) := by kernel_rfl
theorem sz110 : asz Tryz.prog 110 = some 1 := by kernel_rfl
theorem ag110 : aagg Tryz.prog 110 = some false := by kernel_rfl
theorem zr110 : azero Tryz.prog 110 = some (.map none) := by kernel_rfl
theorem sz123 : asz Tryz.prog 123 = some 1 := by kernel_rfl
theorem ag123 : aagg Tryz.prog 123 = some false := by kernel_rfl
theorem zr123 : azero Tryz.prog 123 = some (.pointer none) := by kernel_rfl
theorem sz125 : asz Tryz.prog 125 = some 2 := by kernel_rfl
theorem ag125 : aagg Tryz.prog 125 = some true := by kernel_rfl
theorem zr125 : azero Tryz.prog 125 = some (.agg #[.pointer none, .int .i64 0]) := by kernel_rfl
theorem sz127 : asz Tryz.prog 127 = some 3 := by kernel_rfl
theorem ag127 : aagg Tryz.prog 127 = some true := by kernel_rfl
theorem zr127 : azero Tryz.prog 127 = some (.agg #[.int .i64 0, .slice none 0 0, .slice none 0 0]) := by kernel_rfl
theorem sz157 : asz Tryz.prog 157 = some 1 := by kernel_rfl
theorem ag157 : aagg Tryz.prog 157 = some false := by kernel_rfl
theorem zr157 : azero Tryz.prog 157 = some (.int .u32 0) := by kernel_rfl
theorem sz159 : asz Tryz.prog 159 = some 4 := by kernel_rfl
theorem ag159 : aagg Tryz.prog 159 = some true := by kernel_rfl
theorem zr159 : azero Tryz.prog 159 = some (.agg #[.int .u32 0, .bool false, .int .i64 0, .int .i64 0]) := by kernel_rfl
theorem sz179 : asz Tryz.prog 179 = some 1 := by kernel_rfl
theorem ag179 : aagg Tryz.prog 179 = some false := by kernel_rfl
theorem zr179 : azero Tryz.prog 179 = some (.nilFunc) := by kernel_rfl
theorem sz184 : asz Tryz.prog 184 = some 1 := by kernel_rfl
theorem ag184 : aagg Tryz.prog 184 = some false := by kernel_rfl
theorem zr184 : azero Tryz.prog 184 = some (.slice none 0 0) := by kernel_rfl
theorem sz187 : asz Tryz.prog 187 = some 1 := by kernel_rfl
theorem ag187 : aagg Tryz.prog 187 = some false := by kernel_rfl
theorem zr187 : azero Tryz.prog 187 = some (.slice none 0 0) := by kernel_rfl
theorem sz188 : asz Tryz.prog 188 = some 1 := by kernel_rfl
theorem ag188 : aagg Tryz.prog 188 = some false := by kernel_rfl
theorem zr188 : azero Tryz.prog 188 = some (.pointer none) := by kernel_rfl
theorem sz190 : asz Tryz.prog 190 = some 8 := by kernel_rfl
theorem ag190 : aagg Tryz.prog 190 = some true := by kernel_rfl
theorem zr190 : azero Tryz.prog 190 = some (.agg #[.int .i64 0, .slice none 0 0, .string .empty, .int .i64 0, .int .i64 0, .string .empty, .slice none 0 0, .slice none 0 0]) := by kernel_rfl
theorem sz191 : asz Tryz.prog 191 = some 1 := by kernel_rfl
theorem ag191 : aagg Tryz.prog 191 = some false := by kernel_rfl
theorem zr191 : azero Tryz.prog 191 = some (.int .u64 0) := by kernel_rfl
theorem sz198 : asz Tryz.prog 198 = some 1 := by kernel_rfl
theorem ag198 : aagg Tryz.prog 198 = some false := by kernel_rfl
theorem zr198 : azero Tryz.prog 198 = some (.pointer none) := by kernel_rfl
theorem sz231 : asz Tryz.prog 231 = some 0 := by kernel_rfl
theorem ag231 : aagg Tryz.prog 231 = some true := by kernel_rfl
theorem zr231 : azero Tryz.prog 231 = some (.agg #[]) := by kernel_rfl
theorem sz233 : asz Tryz.prog 233 = some 0 := by kernel_rfl
theorem ag233 : aagg Tryz.prog 233 = some true := by kernel_rfl
theorem zr233 : azero Tryz.prog 233 = some (.agg #[]) := by kernel_rfl
theorem ld2 (hE : E.P = Tryz.prog) {a : Addr} : aload E h 2 (.pointer (some a)) = (acells E h a 1).bind fun l => l[0]? := by simp only [aload, hE, ag2]
theorem st2 (hE : E.P = Tryz.prog) {a : Addr} {v : Value} : astore E h 2 (.pointer (some a)) v = if 1 = (vcells v).length then awrite h a (vcells v) else none := by simp [astore, hE, sz2]
theorem al2 : aalloc Tryz.prog ev (.alloc 2) = some (fun b => .pointer (some ⟨b, 0, none⟩), .cells [.int .i64 0] 2 true) := by simp [aalloc, zr2, vcells]
theorem ld3 (hE : E.P = Tryz.prog) {a : Addr} : aload E h 3 (.pointer (some a)) = (acells E h a 1).bind fun l => l[0]? := by simp only [aload, hE, ag3]
theorem st3 (hE : E.P = Tryz.prog) {a : Addr} {v : Value} : astore E h 3 (.pointer (some a)) v = if 1 = (vcells v).length then awrite h a (vcells v) else none := by simp [astore, hE, sz3]
theorem al3 : aalloc Tryz.prog ev (.alloc 3) = some (fun b => .pointer (some ⟨b, 0, none⟩), .cells [.int .i64 0] 3 true) := by simp [aalloc, zr3, vcells]
theorem ld4 (hE : E.P = Tryz.prog) {a : Addr} : aload E h 4 (.pointer (some a)) = (acells E h a 1).bind fun l => l[0]? := by simp only [aload, hE, ag4]
theorem st4 (hE : E.P = Tryz.prog) {a : Addr} {v : Value} : astore E h 4 (.pointer (some a)) v = if 1 = (vcells v).length then awrite h a (vcells v) else none := by simp [astore, hE, sz4]
theorem al4 : aalloc Tryz.prog ev (.alloc 4) = some (fun b => .pointer (some ⟨b, 0, none⟩), .cells [.bool false] 4 true) := by simp [aalloc, zr4, vcells]
theorem ld5 (hE : E.P = Tryz.prog) {a : Addr} : aload E h 5 (.pointer (some a)) = (acells E h a 1).bind fun l => l[0]? := by simp only [aload, hE, ag5]
theorem st5 (hE : E.P = Tryz.prog) {a : Addr} {v : Value} : astore E h 5 (.pointer (some a)) v = if 1 = (vcells v).length then awrite h a (vcells v) else none := by simp [astore, hE, sz5]
theorem al5 : aalloc Tryz.prog ev (.alloc 5) = some (fun b => .pointer (some ⟨b, 0, none⟩), .cells [.int .u8 0] 5 true) := by simp [aalloc, zr5, vcells]
theorem ld9 (hE : E.P = Tryz.prog) {a : Addr} : aload E h 9 (.pointer (some a)) = (acells E h a 1).bind fun l => l[0]? := by simp only [aload, hE, ag9]
theorem st9 (hE : E.P = Tryz.prog) {a : Addr} {v : Value} : astore E h 9 (.pointer (some a)) v = if 1 = (vcells v).length then awrite h a (vcells v) else none := by simp [astore, hE, sz9]
theorem al9 : aalloc Tryz.prog ev (.alloc 9) = some (fun b => .pointer (some ⟨b, 0, none⟩), .cells [.string .empty] 9 true) := by simp [aalloc, zr9, vcells]
theorem ld16 (hE : E.P = Tryz.prog) {a : Addr} : aload E h 16 (.pointer (some a)) = (acells E h a 1).bind fun l => l[0]? := by simp only [aload, hE, ag16]
theorem st16 (hE : E.P = Tryz.prog) {a : Addr} {v : Value} : astore E h 16 (.pointer (some a)) v = if 1 = (vcells v).length then awrite h a (vcells v) else none := by simp [astore, hE, sz16]
theorem al16 : aalloc Tryz.prog ev (.alloc 16) = some (fun b => .pointer (some ⟨b, 0, none⟩), .cells [.pointer none] 16 true) := by simp [aalloc, zr16, vcells]
theorem ld21 (hE : E.P = Tryz.prog) {a : Addr} : aload E h 21 (.pointer (some a)) = (acells E h a 1).bind fun l => l[0]? := by simp only [aload, hE, ag21]
theorem st21 (hE : E.P = Tryz.prog) {a : Addr} {v : Value} : astore E h 21 (.pointer (some a)) v = if 1 = (vcells v).length then awrite h a (vcells v) else none := by simp [astore, hE, sz21]
theorem al21 : aalloc Tryz.prog ev (.alloc 21) = some (fun b => .pointer (some ⟨b, 0, none⟩), .cells [.int .i32 0] 21 true) := by simp [aalloc, zr21, vcells]
theorem ld22 (hE : E.P = Tryz.prog) {a : Addr} : aload E h 22 (.pointer (some a)) = (acells E h a 1).bind fun l => l[0]? := by simp only [aload, hE, ag22]
theorem st22 (hE : E.P = Tryz.prog) {a : Addr} {v : Value} : astore E h 22 (.pointer (some a)) v = if 1 = (vcells v).length then awrite h a (vcells v) else none := by simp [astore, hE, sz22]
theorem al22 : aalloc Tryz.prog ev (.alloc 22) = some (fun b => .pointer (some ⟨b, 0, none⟩), .cells [.slice none 0 0] 22 true) := by simp [aalloc, zr22, vcells]
theorem ia22 {a : Addr} {len cap : Nat} {k : IntKind} {n : Int} (ha : a.spot = none) (h0 : 0 ≤ n) (h1 : n < len) : aindexAddr Tryz.prog 22 (.slice (some a) len cap) (.int k n) = some (.pointer (some ⟨a.block, a.off + n.toNat * 5, none⟩)) := by simp [aindexAddr, Tryz.underlying22, sz25, ha, addo, h0, h1]
theorem le22 {a : Option Addr} {len cap : Nat} : alen Tryz.prog 22 (.slice a len cap) = some (.int .i64 len) := by simp [alen, Tryz.underlying22]
theorem in25 : (Tryz.prog.info? 25).map (fun i => (i.size, i.bytes)) = some (5, 80) := by kernel_rfl
theorem mk22 {k k' : IntKind} {l c : Int} (h0 : 0 ≤ l) (h1 : l ≤ c) (h2 : 80 * c ≤ 281474976710656) (h3 : c ≤ 9223372036854775807) : amk Tryz.prog 22 (.int k l) (.int k' c) = some (fun b => .slice (some ⟨b, 0, none⟩) l.toNat c.toNat, .cells (arep c.toNat [.int .i64 0, .int .i64 0, .string .empty, .slice none 0 0, .slice none 0 0]) 25 true) := makeSlice_at (E := ⟨Tryz.prog, 0, fun _ => none, fun _ _ => none⟩) ⟨Tryz.underlying22, in25, ⟨_, zr25, rfl⟩, by decide⟩ ⟨_, zr25, rfl⟩ h0 h1 h2 h3
theorem bs22 {v : Value} (hl : (vcells v).length = 5) : abs1 Tryz.prog 22 1 [(0, v)] = some (fun b => .slice (some ⟨b, 0, none⟩) 1 1, .cells (vcells v) 25 true) := buildSlice_one (E := ⟨Tryz.prog, 0, fun _ => none, fun _ _ => none⟩) ⟨Tryz.underlying22, in25, ⟨_, zr25, rfl⟩, by decide⟩ hl (by decide)
theorem el22 (hE : E.P = Tryz.prog) : Elem E 22 25 5 80 := ⟨by rw [hE]; exact Tryz.underlying22, by rw [hE]; exact in25, ⟨_, by rw [hE]; exact zr25, rfl⟩, by decide⟩
theorem ld23 (hE : E.P = Tryz.prog) {a : Addr} : aload E h 23 (.pointer (some a)) = (acells E h a 1).bind fun l => l[0]? := by simp only [aload, hE, ag23]
theorem st23 (hE : E.P = Tryz.prog) {a : Addr} {v : Value} : astore E h 23 (.pointer (some a)) v = if 1 = (vcells v).length then awrite h a (vcells v) else none := by simp [astore, hE, sz23]
theorem al23 : aalloc Tryz.prog ev (.alloc 23) = some (fun b => .pointer (some ⟨b, 0, none⟩), .cells [.slice none 0 0] 23 true) := by simp [aalloc, zr23, vcells]
theorem ia23 {a : Addr} {len cap : Nat} {k : IntKind} {n : Int} (ha : a.spot = none) (h0 : 0 ≤ n) (h1 : n < len) : aindexAddr Tryz.prog 23 (.slice (some a) len cap) (.int k n) = some (.pointer (some ⟨a.block, a.off + n.toNat * 6, none⟩)) := by simp [aindexAddr, Tryz.underlying23, sz91, ha, addo, h0, h1]
theorem le23 {a : Option Addr} {len cap : Nat} : alen Tryz.prog 23 (.slice a len cap) = some (.int .i64 len) := by simp [alen, Tryz.underlying23]
theorem in91 : (Tryz.prog.info? 91).map (fun i => (i.size, i.bytes)) = some (6, 96) := by kernel_rfl
theorem mk23 {k k' : IntKind} {l c : Int} (h0 : 0 ≤ l) (h1 : l ≤ c) (h2 : 96 * c ≤ 281474976710656) (h3 : c ≤ 9223372036854775807) : amk Tryz.prog 23 (.int k l) (.int k' c) = some (fun b => .slice (some ⟨b, 0, none⟩) l.toNat c.toNat, .cells (arep c.toNat [.string .empty, .int .i64 0, .int .i64 0, .string .empty, .slice none 0 0, .slice none 0 0]) 91 true) := makeSlice_at (E := ⟨Tryz.prog, 0, fun _ => none, fun _ _ => none⟩) ⟨Tryz.underlying23, in91, ⟨_, zr91, rfl⟩, by decide⟩ ⟨_, zr91, rfl⟩ h0 h1 h2 h3
theorem bs23 {v : Value} (hl : (vcells v).length = 6) : abs1 Tryz.prog 23 1 [(0, v)] = some (fun b => .slice (some ⟨b, 0, none⟩) 1 1, .cells (vcells v) 91 true) := buildSlice_one (E := ⟨Tryz.prog, 0, fun _ => none, fun _ _ => none⟩) ⟨Tryz.underlying23, in91, ⟨_, zr91, rfl⟩, by decide⟩ hl (by decide)
theorem el23 (hE : E.P = Tryz.prog) : Elem E 23 91 6 96 := ⟨by rw [hE]; exact Tryz.underlying23, by rw [hE]; exact in91, ⟨_, by rw [hE]; exact zr91, rfl⟩, by decide⟩
theorem ld25 (hE : E.P = Tryz.prog) {a : Addr} : aload E h 25 (.pointer (some a)) = (acells E h a 5).map fun l => .agg l.toArray := by simp only [aload, hE, ag25, sz25]
theorem st25 (hE : E.P = Tryz.prog) {a : Addr} {v : Value} : astore E h 25 (.pointer (some a)) v = if 5 = (vcells v).length then awrite h a (vcells v) else none := by simp [astore, hE, sz25]
theorem al25 : aalloc Tryz.prog ev (.alloc 25) = some (fun b => .pointer (some ⟨b, 0, none⟩), .cells [.int .i64 0, .int .i64 0, .string .empty, .slice none 0 0, .slice none 0 0] 25 true) := by simp [aalloc, zr25, vcells]
theorem fa25_0 {a : Addr} (ha : a.spot = none) : afieldAddr Tryz.prog 25 (.pointer (some a)) 0 = some (.pointer (some ⟨a.block, a.off + 0, none⟩)) := by simp [afieldAddr, Tryz.underlying25, sz3, ha, addo]
theorem fd25_0 {c : Array Value} : afield Tryz.prog 25 (.agg c) 0 = c.toList[0]? := by simp [afield, apart, Tryz.underlying25, ag3]
theorem fa25_1 {a : Addr} (ha : a.spot = none) : afieldAddr Tryz.prog 25 (.pointer (some a)) 1 = some (.pointer (some ⟨a.block, a.off + 1, none⟩)) := by simp [afieldAddr, Tryz.underlying25, sz2, ha, addo]
theorem fd25_1 {c : Array Value} : afield Tryz.prog 25 (.agg c) 1 = c.toList[1]? := by simp [afield, apart, Tryz.underlying25, ag2]
theorem fa25_2 {a : Addr} (ha : a.spot = none) : afieldAddr Tryz.prog 25 (.pointer (some a)) 2 = some (.pointer (some ⟨a.block, a.off + 2, none⟩)) := by simp [afieldAddr, Tryz.underlying25, sz9, ha, addo]
theorem fd25_2 {c : Array Value} : afield Tryz.prog 25 (.agg c) 2 = c.toList[2]? := by simp [afield, apart, Tryz.underlying25, ag9]
theorem fa25_3 {a : Addr} (ha : a.spot = none) : afieldAddr Tryz.prog 25 (.pointer (some a)) 3 = some (.pointer (some ⟨a.block, a.off + 3, none⟩)) := by simp [afieldAddr, Tryz.underlying25, sz22, ha, addo]
theorem fd25_3 {c : Array Value} : afield Tryz.prog 25 (.agg c) 3 = c.toList[3]? := by simp [afield, apart, Tryz.underlying25, ag22]
theorem fa25_4 {a : Addr} (ha : a.spot = none) : afieldAddr Tryz.prog 25 (.pointer (some a)) 4 = some (.pointer (some ⟨a.block, a.off + 4, none⟩)) := by simp [afieldAddr, Tryz.underlying25, sz23, ha, addo]
theorem fd25_4 {c : Array Value} : afield Tryz.prog 25 (.agg c) 4 = c.toList[4]? := by simp [afield, apart, Tryz.underlying25, ag23]
theorem bd25 {ps : List (Nat × Value)} : abuild Tryz.prog 25 ps = (afill (fun i => ([(0, 1), (1, 1), (2, 1), (3, 1), (4, 1)] : List (Nat × Nat))[i]?) [.int .i64 0, .int .i64 0, .string .empty, .slice none 0 0, .slice none 0 0] ps).map fun l => .agg l.toArray := by simp [abuild, zr25, Tryz.underlying25, aplaces, sz2, sz22, sz23, sz3, sz9, vcells]
theorem ld28 (hE : E.P = Tryz.prog) {a : Addr} : aload E h 28 (.pointer (some a)) = (acells E h a 1).bind fun l => l[0]? := by simp only [aload, hE, ag28]
theorem st28 (hE : E.P = Tryz.prog) {a : Addr} {v : Value} : astore E h 28 (.pointer (some a)) v = if 1 = (vcells v).length then awrite h a (vcells v) else none := by simp [astore, hE, sz28]
theorem al28 : aalloc Tryz.prog ev (.alloc 28) = some (fun b => .pointer (some ⟨b, 0, none⟩), .cells [.pointer none] 28 true) := by simp [aalloc, zr28, vcells]
theorem ld30 (hE : E.P = Tryz.prog) {a : Addr} : aload E h 30 (.pointer (some a)) = (acells E h a 1).bind fun l => l[0]? := by simp only [aload, hE, ag30]
theorem st30 (hE : E.P = Tryz.prog) {a : Addr} {v : Value} : astore E h 30 (.pointer (some a)) v = if 1 = (vcells v).length then awrite h a (vcells v) else none := by simp [astore, hE, sz30]
theorem al30 : aalloc Tryz.prog ev (.alloc 30) = some (fun b => .pointer (some ⟨b, 0, none⟩), .cells [.int .i64 0] 30 true) := by simp [aalloc, zr30, vcells]
theorem ld33 (hE : E.P = Tryz.prog) {a : Addr} : aload E h 33 (.pointer (some a)) = (acells E h a 1).bind fun l => l[0]? := by simp only [aload, hE, ag33]
theorem st33 (hE : E.P = Tryz.prog) {a : Addr} {v : Value} : astore E h 33 (.pointer (some a)) v = if 1 = (vcells v).length then awrite h a (vcells v) else none := by simp [astore, hE, sz33]
theorem al33 : aalloc Tryz.prog ev (.alloc 33) = some (fun b => .pointer (some ⟨b, 0, none⟩), .cells [.int .u64 0] 33 true) := by simp [aalloc, zr33, vcells]
theorem ld37 (hE : E.P = Tryz.prog) {a : Addr} : aload E h 37 (.pointer (some a)) = (acells E h a 1).bind fun l => l[0]? := by simp only [aload, hE, ag37]
theorem st37 (hE : E.P = Tryz.prog) {a : Addr} {v : Value} : astore E h 37 (.pointer (some a)) v = if 1 = (vcells v).length then awrite h a (vcells v) else none := by simp [astore, hE, sz37]
theorem al37 : aalloc Tryz.prog ev (.alloc 37) = some (fun b => .pointer (some ⟨b, 0, none⟩), .cells [.pointer none] 37 true) := by simp [aalloc, zr37, vcells]
theorem ld42 (hE : E.P = Tryz.prog) {a : Addr} : aload E h 42 (.pointer (some a)) = (acells E h a 1).bind fun l => l[0]? := by simp only [aload, hE, ag42]
theorem st42 (hE : E.P = Tryz.prog) {a : Addr} {v : Value} : astore E h 42 (.pointer (some a)) v = if 1 = (vcells v).length then awrite h a (vcells v) else none := by simp [astore, hE, sz42]
theorem al42 : aalloc Tryz.prog ev (.alloc 42) = some (fun b => .pointer (some ⟨b, 0, none⟩), .cells [.pointer none] 42 true) := by simp [aalloc, zr42, vcells]
theorem ld50 (hE : E.P = Tryz.prog) {a : Addr} : aload E h 50 (.pointer (some a)) = (acells E h a 1).bind fun l => l[0]? := by simp only [aload, hE, ag50]
theorem st50 (hE : E.P = Tryz.prog) {a : Addr} {v : Value} : astore E h 50 (.pointer (some a)) v = if 1 = (vcells v).length then awrite h a (vcells v) else none := by simp [astore, hE, sz50]
theorem al50 : aalloc Tryz.prog ev (.alloc 50) = some (fun b => .pointer (some ⟨b, 0, none⟩), .cells [.slice none 0 0] 50 true) := by simp [aalloc, zr50, vcells]
theorem ia50 {a : Addr} {len cap : Nat} {k : IntKind} {n : Int} (ha : a.spot = none) (h0 : 0 ≤ n) (h1 : n < len) : aindexAddr Tryz.prog 50 (.slice (some a) len cap) (.int k n) = some (.pointer (some ⟨a.block, a.off + n.toNat * 1, none⟩)) := by simp [aindexAddr, Tryz.underlying50, sz33, ha, addo, h0, h1]
theorem le50 {a : Option Addr} {len cap : Nat} : alen Tryz.prog 50 (.slice a len cap) = some (.int .i64 len) := by simp [alen, Tryz.underlying50]
theorem in33 : (Tryz.prog.info? 33).map (fun i => (i.size, i.bytes)) = some (1, 8) := by kernel_rfl
theorem mk50 {k k' : IntKind} {l c : Int} (h0 : 0 ≤ l) (h1 : l ≤ c) (h2 : 8 * c ≤ 281474976710656) (h3 : c ≤ 9223372036854775807) : amk Tryz.prog 50 (.int k l) (.int k' c) = some (fun b => .slice (some ⟨b, 0, none⟩) l.toNat c.toNat, .cells (arep c.toNat [.int .u64 0]) 33 true) := makeSlice_at (E := ⟨Tryz.prog, 0, fun _ => none, fun _ _ => none⟩) ⟨Tryz.underlying50, in33, ⟨_, zr33, rfl⟩, by decide⟩ ⟨_, zr33, rfl⟩ h0 h1 h2 h3
theorem bs50 {v : Value} (hl : (vcells v).length = 1) : abs1 Tryz.prog 50 1 [(0, v)] = some (fun b => .slice (some ⟨b, 0, none⟩) 1 1, .cells (vcells v) 33 true) := buildSlice_one (E := ⟨Tryz.prog, 0, fun _ => none, fun _ _ => none⟩) ⟨Tryz.underlying50, in33, ⟨_, zr33, rfl⟩, by decide⟩ hl (by decide)
theorem el50 (hE : E.P = Tryz.prog) : Elem E 50 33 1 8 := ⟨by rw [hE]; exact Tryz.underlying50, by rw [hE]; exact in33, ⟨_, by rw [hE]; exact zr33, rfl⟩, by decide⟩
theorem ld66 (hE : E.P = Tryz.prog) {a : Addr} : aload E h 66 (.pointer (some a)) = (acells E h a 1).bind fun l => l[0]? := by simp only [aload, hE, ag66]
theorem st66 (hE : E.P = Tryz.prog) {a : Addr} {v : Value} : astore E h 66 (.pointer (some a)) v = if 1 = (vcells v).length then awrite h a (vcells v) else none := by simp [astore, hE, sz66]
theorem al66 : aalloc Tryz.prog ev (.alloc 66) = some (fun b => .pointer (some ⟨b, 0, none⟩), .cells [.slice none 0 0] 66 true) := by simp [aalloc, zr66, vcells]
theorem ia66 {a : Addr} {len cap : Nat} {k : IntKind} {n : Int} (ha : a.spot = none) (h0 : 0 ≤ n) (h1 : n < len) : aindexAddr Tryz.prog 66 (.slice (some a) len cap) (.int k n) = some (.pointer (some ⟨a.block, a.off + n.toNat * 1, none⟩)) := by simp [aindexAddr, Tryz.underlying66, sz5, ha, addo, h0, h1]
theorem le66 {a : Option Addr} {len cap : Nat} : alen Tryz.prog 66 (.slice a len cap) = some (.int .i64 len) := by simp [alen, Tryz.underlying66]
theorem in5 : (Tryz.prog.info? 5).map (fun i => (i.size, i.bytes)) = some (1, 1) := by kernel_rfl
theorem mk66 {k k' : IntKind} {l c : Int} (h0 : 0 ≤ l) (h1 : l ≤ c) (h2 : 1 * c ≤ 281474976710656) (h3 : c ≤ 9223372036854775807) : amk Tryz.prog 66 (.int k l) (.int k' c) = some (fun b => .slice (some ⟨b, 0, none⟩) l.toNat c.toNat, .cells (arep c.toNat [.int .u8 0]) 5 true) := makeSlice_at (E := ⟨Tryz.prog, 0, fun _ => none, fun _ _ => none⟩) ⟨Tryz.underlying66, in5, ⟨_, zr5, rfl⟩, by decide⟩ ⟨_, zr5, rfl⟩ h0 h1 h2 h3
theorem bs66 {v : Value} (hl : (vcells v).length = 1) : abs1 Tryz.prog 66 1 [(0, v)] = some (fun b => .slice (some ⟨b, 0, none⟩) 1 1, .cells (vcells v) 5 true) := buildSlice_one (E := ⟨Tryz.prog, 0, fun _ => none, fun _ _ => none⟩) ⟨Tryz.underlying66, in5, ⟨_, zr5, rfl⟩, by decide⟩ hl (by decide)
theorem el66 (hE : E.P = Tryz.prog) : Elem E 66 5 1 1 := ⟨by rw [hE]; exact Tryz.underlying66, by rw [hE]; exact in5, ⟨_, by rw [hE]; exact zr5, rfl⟩, by decide⟩
theorem ld79 (hE : E.P = Tryz.prog) {a : Addr} : aload E h 79 (.pointer (some a)) = (acells E h a 1).map fun l => .agg l.toArray := by simp only [aload, hE, ag79, sz79]
theorem st79 (hE : E.P = Tryz.prog) {a : Addr} {v : Value} : astore E h 79 (.pointer (some a)) v = if 1 = (vcells v).length then awrite h a (vcells v) else none := by simp [astore, hE, sz79]
theorem al79 : aalloc Tryz.prog ev (.alloc 79) = some (fun b => .pointer (some ⟨b, 0, none⟩), .cells [.pointer none] 79 true) := by simp [aalloc, zr79, vcells]
theorem fa79_0 {a : Addr} (ha : a.spot = none) : afieldAddr Tryz.prog 79 (.pointer (some a)) 0 = some (.pointer (some ⟨a.block, a.off + 0, none⟩)) := by simp [afieldAddr, Tryz.underlying79, sz28, ha, addo]
theorem fd79_0 {c : Array Value} : afield Tryz.prog 79 (.agg c) 0 = c.toList[0]? := by simp [afield, apart, Tryz.underlying79, ag28]
theorem bd79 {ps : List (Nat × Value)} : abuild Tryz.prog 79 ps = (afill (fun i => ([(0, 1)] : List (Nat × Nat))[i]?) [.pointer none] ps).map fun l => .agg l.toArray := by simp [abuild, zr79, Tryz.underlying79, aplaces, sz28, vcells]
theorem ld81 (hE : E.P = Tryz.prog) {a : Addr} : aload E h 81 (.pointer (some a)) = (acells E h a 1).bind fun l => l[0]? := by simp only [aload, hE, ag81]
theorem st81 (hE : E.P = Tryz.prog) {a : Addr} {v : Value} : astore E h 81 (.pointer (some a)) v = if 1 = (vcells v).length then awrite h a (vcells v) else none := by simp [astore, hE, sz81]
theorem al81 : aalloc Tryz.prog ev (.alloc 81) = some (fun b => .pointer (some ⟨b, 0, none⟩), .cells [.nilFunc] 81 true) := by simp [aalloc, zr81, vcells]
theorem ld82 (hE : E.P = Tryz.prog) {a : Addr} : aload E h 82 (.pointer (some a)) = (acells E h a 16).map fun l => .agg l.toArray := by simp only [aload, hE, ag82, sz82]
theorem st82 (hE : E.P = Tryz.prog) {a : Addr} {v : Value} : astore E h 82 (.pointer (some a)) v = if 16 = (vcells v).length then awrite h a (vcells v) else none := by simp [astore, hE, sz82]
theorem al82 : aalloc Tryz.prog ev (.alloc 82) = some (fun b => .pointer (some ⟨b, 0, none⟩), .cells [.int .u64 0, .int .u64 0, .int .u64 0, .int .u64 0, .int .u64 0, .int .u64 0, .int .u64 0, .int .u64 0, .int .u64 0, .int .u64 0, .int .u64 0, .int .u64 0, .int .u64 0, .int .u64 0, .int .u64 0, .int .u64 0] 82 true) := by simp [aalloc, zr82, vcells]
theorem ld84 (hE : E.P = Tryz.prog) {a : Addr} : aload E h 84 (.pointer (some a)) = (acells E h a 1).bind fun l => l[0]? := by simp only [aload, hE, ag84]
theorem st84 (hE : E.P = Tryz.prog) {a : Addr} {v : Value} : astore E h 84 (.pointer (some a)) v = if 1 = (vcells v).length then awrite h a (vcells v) else none := by simp [astore, hE, sz84]
theorem al84 : aalloc Tryz.prog ev (.alloc 84) = some (fun b => .pointer (some ⟨b, 0, none⟩), .cells [.nilIface] 84 true) := by simp [aalloc, zr84, vcells]
theorem ld86 (hE : E.P = Tryz.prog) {a : Addr} : aload E h 86 (.pointer (some a)) = (acells E h a 19).map fun l => .agg l.toArray := by simp only [aload, hE, ag86, sz86]
theorem st86 (hE : E.P = Tryz.prog) {a : Addr} {v : Value} : astore E h 86 (.pointer (some a)) v = if 19 = (vcells v).length then awrite h a (vcells v) else none := by simp [astore, hE, sz86]
theorem al86 : aalloc Tryz.prog ev (.alloc 86) = some (fun b => .pointer (some ⟨b, 0, none⟩), .cells [.pointer none, .pointer none, .int .u64 0, .int .u64 0, .int .u64 0, .int .u64 0, .int .u64 0, .int .u64 0, .int .u64 0, .int .u64 0, .int .u64 0, .int .u64 0, .int .u64 0, .int .u64 0, .int .u64 0, .int .u64 0, .int .u64 0, .int .u64 0, .nilIface] 86 true) := by simp [aalloc, zr86, vcells]
theorem fa86_0 {a : Addr} (ha : a.spot = none) : afieldAddr Tryz.prog 86 (.pointer (some a)) 0 = some (.pointer (some ⟨a.block, a.off + 0, none⟩)) := by simp [afieldAddr, Tryz.underlying86, sz37, ha, addo]
theorem fd86_0 {c : Array Value} : afield Tryz.prog 86 (.agg c) 0 = c.toList[0]? := by simp [afield, apart, Tryz.underlying86, ag37]
theorem fa86_1 {a : Addr} (ha : a.spot = none) : afieldAddr Tryz.prog 86 (.pointer (some a)) 1 = some (.pointer (some ⟨a.block, a.off + 1, none⟩)) := by simp [afieldAddr, Tryz.underlying86, sz42, ha, addo]
theorem fd86_1 {c : Array Value} : afield Tryz.prog 86 (.agg c) 1 = c.toList[1]? := by simp [afield, apart, Tryz.underlying86, ag42]
theorem fa86_2 {a : Addr} (ha : a.spot = none) : afieldAddr Tryz.prog 86 (.pointer (some a)) 2 = some (.pointer (some ⟨a.block, a.off + 2, none⟩)) := by simp [afieldAddr, Tryz.underlying86, sz82, ha, addo]
theorem fd86_2 {c : Array Value} : afield Tryz.prog 86 (.agg c) 2 = some (.agg ((c.toList.drop 2).take 16).toArray) := by simp [afield, apart, Tryz.underlying86, ag82, sz82]
theorem fa86_3 {a : Addr} (ha : a.spot = none) : afieldAddr Tryz.prog 86 (.pointer (some a)) 3 = some (.pointer (some ⟨a.block, a.off + 18, none⟩)) := by simp [afieldAddr, Tryz.underlying86, sz84, ha, addo]
theorem fd86_3 {c : Array Value} : afield Tryz.prog 86 (.agg c) 3 = c.toList[18]? := by simp [afield, apart, Tryz.underlying86, ag84]
theorem bd86 {ps : List (Nat × Value)} : abuild Tryz.prog 86 ps = (afill (fun i => ([(0, 1), (1, 1), (2, 16), (18, 1)] : List (Nat × Nat))[i]?) [.pointer none, .pointer none, .int .u64 0, .int .u64 0, .int .u64 0, .int .u64 0, .int .u64 0, .int .u64 0, .int .u64 0, .int .u64 0, .int .u64 0, .int .u64 0, .int .u64 0, .int .u64 0, .int .u64 0, .int .u64 0, .int .u64 0, .int .u64 0, .nilIface] ps).map fun l => .agg l.toArray := by simp [abuild, zr86, Tryz.underlying86, aplaces, sz37, sz42, sz82, sz84, vcells]
theorem ld88 (hE : E.P = Tryz.prog) {a : Addr} : aload E h 88 (.pointer (some a)) = (acells E h a 6).map fun l => .agg l.toArray := by simp only [aload, hE, ag88, sz88]
theorem st88 (hE : E.P = Tryz.prog) {a : Addr} {v : Value} : astore E h 88 (.pointer (some a)) v = if 6 = (vcells v).length then awrite h a (vcells v) else none := by simp [astore, hE, sz88]
theorem al88 : aalloc Tryz.prog ev (.alloc 88) = some (fun b => .pointer (some ⟨b, 0, none⟩), .cells [.slice none 0 0, .slice none 0 0, .int .i64 0, .int .i64 0, .int .i64 0, .bool false] 88 true) := by simp [aalloc, zr88, vcells]
theorem fa88_0 {a : Addr} (ha : a.spot = none) : afieldAddr Tryz.prog 88 (.pointer (some a)) 0 = some (.pointer (some ⟨a.block, a.off + 0, none⟩)) := by simp [afieldAddr, Tryz.underlying88, sz50, ha, addo]
theorem fd88_0 {c : Array Value} : afield Tryz.prog 88 (.agg c) 0 = c.toList[0]? := by simp [afield, apart, Tryz.underlying88, ag50]
theorem fa88_1 {a : Addr} (ha : a.spot = none) : afieldAddr Tryz.prog 88 (.pointer (some a)) 1 = some (.pointer (some ⟨a.block, a.off + 1, none⟩)) := by simp [afieldAddr, Tryz.underlying88, sz50, ha, addo]
theorem fd88_1 {c : Array Value} : afield Tryz.prog 88 (.agg c) 1 = c.toList[1]? := by simp [afield, apart, Tryz.underlying88, ag50]
theorem fa88_2 {a : Addr} (ha : a.spot = none) : afieldAddr Tryz.prog 88 (.pointer (some a)) 2 = some (.pointer (some ⟨a.block, a.off + 2, none⟩)) := by simp [afieldAddr, Tryz.underlying88, sz3, ha, addo]
theorem fd88_2 {c : Array Value} : afield Tryz.prog 88 (.agg c) 2 = c.toList[2]? := by simp [afield, apart, Tryz.underlying88, ag3]
theorem fa88_3 {a : Addr} (ha : a.spot = none) : afieldAddr Tryz.prog 88 (.pointer (some a)) 3 = some (.pointer (some ⟨a.block, a.off + 3, none⟩)) := by simp [afieldAddr, Tryz.underlying88, sz3, ha, addo]
theorem fd88_3 {c : Array Value} : afield Tryz.prog 88 (.agg c) 3 = c.toList[3]? := by simp [afield, apart, Tryz.underlying88, ag3]
theorem fa88_4 {a : Addr} (ha : a.spot = none) : afieldAddr Tryz.prog 88 (.pointer (some a)) 4 = some (.pointer (some ⟨a.block, a.off + 4, none⟩)) := by simp [afieldAddr, Tryz.underlying88, sz3, ha, addo]
theorem fd88_4 {c : Array Value} : afield Tryz.prog 88 (.agg c) 4 = c.toList[4]? := by simp [afield, apart, Tryz.underlying88, ag3]
theorem fa88_5 {a : Addr} (ha : a.spot = none) : afieldAddr Tryz.prog 88 (.pointer (some a)) 5 = some (.pointer (some ⟨a.block, a.off + 5, none⟩)) := by simp [afieldAddr, Tryz.underlying88, sz4, ha, addo]
theorem fd88_5 {c : Array Value} : afield Tryz.prog 88 (.agg c) 5 = c.toList[5]? := by simp [afield, apart, Tryz.underlying88, ag4]
theorem bd88 {ps : List (Nat × Value)} : abuild Tryz.prog 88 ps = (afill (fun i => ([(0, 1), (1, 1), (2, 1), (3, 1), (4, 1), (5, 1)] : List (Nat × Nat))[i]?) [.slice none 0 0, .slice none 0 0, .int .i64 0, .int .i64 0, .int .i64 0, .bool false] ps).map fun l => .agg l.toArray := by simp [abuild, zr88, Tryz.underlying88, aplaces, sz3, sz4, sz50, vcells]
theorem ld91 (hE : E.P = Tryz.prog) {a : Addr} : aload E h 91 (.pointer (some a)) = (acells E h a 6).map fun l => .agg l.toArray := by simp only [aload, hE, ag91, sz91]
theorem st91 (hE : E.P = Tryz.prog) {a : Addr} {v : Value} : astore E h 91 (.pointer (some a)) v = if 6 = (vcells v).length then awrite h a (vcells v) else none := by simp [astore, hE, sz91]
theorem al91 : aalloc Tryz.prog ev (.alloc 91) = some (fun b => .pointer (some ⟨b, 0, none⟩), .cells [.string .empty, .int .i64 0, .int .i64 0, .string .empty, .slice none 0 0, .slice none 0 0] 91 true) := by simp [aalloc, zr91, vcells]
theorem fa91_0 {a : Addr} (ha : a.spot = none) : afieldAddr Tryz.prog 91 (.pointer (some a)) 0 = some (.pointer (some ⟨a.block, a.off + 0, none⟩)) := by simp [afieldAddr, Tryz.underlying91, sz9, ha, addo]
theorem fd91_0 {c : Array Value} : afield Tryz.prog 91 (.agg c) 0 = c.toList[0]? := by simp [afield, apart, Tryz.underlying91, ag9]
theorem fa91_1 {a : Addr} (ha : a.spot = none) : afieldAddr Tryz.prog 91 (.pointer (some a)) 1 = some (.pointer (some ⟨a.block, a.off + 1, none⟩)) := by simp [afieldAddr, Tryz.underlying91, sz25, ha, addo]
theorem fd91_1 {c : Array Value} : afield Tryz.prog 91 (.agg c) 1 = some (.agg ((c.toList.drop 1).take 5).toArray) := by simp [afield, apart, Tryz.underlying91, ag25, sz25]
theorem bd91 {ps : List (Nat × Value)} : abuild Tryz.prog 91 ps = (afill (fun i => ([(0, 1), (1, 5)] : List (Nat × Nat))[i]?) [.string .empty, .int .i64 0, .int .i64 0, .string .empty, .slice none 0 0, .slice none 0 0] ps).map fun l => .agg l.toArray := by simp [abuild, zr91, Tryz.underlying91, aplaces, sz25, sz9, vcells]
theorem ld92 (hE : E.P = Tryz.prog) {a : Addr} : aload E h 92 (.pointer (some a)) = (acells E h a 1).bind fun l => l[0]? := by simp only [aload, hE, ag92]
theorem st92 (hE : E.P = Tryz.prog) {a : Addr} {v : Value} : astore E h 92 (.pointer (some a)) v = if 1 = (vcells v).length then awrite h a (vcells v) else none := by simp [astore, hE, sz92]
theorem al92 : aalloc Tryz.prog ev (.alloc 92) = some (fun b => .pointer (some ⟨b, 0, none⟩), .cells [.slice none 0 0] 92 true) := by simp [aalloc, zr92, vcells]
theorem ia92 {a : Addr} {len cap : Nat} {k : IntKind} {n : Int} (ha : a.spot = none) (h0 : 0 ≤ n) (h1 : n < len) : aindexAddr Tryz.prog 92 (.slice (some a) len cap) (.int k n) = some (.pointer (some ⟨a.block, a.off + n.toNat * 4, none⟩)) := by simp [aindexAddr, Tryz.underlying92, sz159, ha, addo, h0, h1]
theorem le92 {a : Option Addr} {len cap : Nat} : alen Tryz.prog 92 (.slice a len cap) = some (.int .i64 len) := by simp [alen, Tryz.underlying92]
theorem in159 : (Tryz.prog.info? 159).map (fun i => (i.size, i.bytes)) = some (4, 24) := by kernel_rfl
theorem mk92 {k k' : IntKind} {l c : Int} (h0 : 0 ≤ l) (h1 : l ≤ c) (h2 : 24 * c ≤ 281474976710656) (h3 : c ≤ 9223372036854775807) : amk Tryz.prog 92 (.int k l) (.int k' c) = some (fun b => .slice (some ⟨b, 0, none⟩) l.toNat c.toNat, .cells (arep c.toNat [.int .u32 0, .bool false, .int .i64 0, .int .i64 0]) 159 true) := makeSlice_at (E := ⟨Tryz.prog, 0, fun _ => none, fun _ _ => none⟩) ⟨Tryz.underlying92, in159, ⟨_, zr159, rfl⟩, by decide⟩ ⟨_, zr159, rfl⟩ h0 h1 h2 h3
theorem bs92 {v : Value} (hl : (vcells v).length = 4) : abs1 Tryz.prog 92 1 [(0, v)] = some (fun b => .slice (some ⟨b, 0, none⟩) 1 1, .cells (vcells v) 159 true) := buildSlice_one (E := ⟨Tryz.prog, 0, fun _ => none, fun _ _ => none⟩) ⟨Tryz.underlying92, in159, ⟨_, zr159, rfl⟩, by decide⟩ hl (by decide)
theorem el92 (hE : E.P = Tryz.prog) : Elem E 92 159 4 24 := ⟨by rw [hE]; exact Tryz.underlying92, by rw [hE]; exact in159, ⟨_, by rw [hE]; exact zr159, rfl⟩, by decide⟩
theorem ld94 (hE : E.P = Tryz.prog) {a : Addr} : aload E h 94 (.pointer (some a)) = (acells E h a 4).map fun l => .agg l.toArray := by simp only [aload, hE, ag94, sz94]
theorem st94 (hE : E.P = Tryz.prog) {a : Addr} {v : Value} : astore E h 94 (.pointer (some a)) v = if 4 = (vcells v).length then awrite h a (vcells v) else none := by simp [astore, hE, sz94]
theorem al94 : aalloc Tryz.prog ev (.alloc 94) = some (fun b => .pointer (some ⟨b, 0, none⟩), .cells [.slice none 0 0, .int .i64 0, .int .i64 0, .int .i64 0] 94 true) := by simp [aalloc, zr94, vcells]
theorem fa94_0 {a : Addr} (ha : a.spot = none) : afieldAddr Tryz.prog 94 (.pointer (some a)) 0 = some (.pointer (some ⟨a.block, a.off + 0, none⟩)) := by simp [afieldAddr, Tryz.underlying94, sz92, ha, addo]
theorem fd94_0 {c : Array Value} : afield Tryz.prog 94 (.agg c) 0 = c.toList[0]? := by simp [afield, apart, Tryz.underlying94, ag92]
theorem fa94_1 {a : Addr} (ha : a.spot = none) : afieldAddr Tryz.prog 94 (.pointer (some a)) 1 = some (.pointer (some ⟨a.block, a.off + 1, none⟩)) := by simp [afieldAddr, Tryz.underlying94, sz3, ha, addo]
theorem fd94_1 {c : Array Value} : afield Tryz.prog 94 (.agg c) 1 = c.toList[1]? := by simp [afield, apart, Tryz.underlying94, ag3]
theorem fa94_2 {a : Addr} (ha : a.spot = none) : afieldAddr Tryz.prog 94 (.pointer (some a)) 2 = some (.pointer (some ⟨a.block, a.off + 2, none⟩)) := by simp [afieldAddr, Tryz.underlying94, sz3, ha, addo]
theorem fd94_2 {c : Array Value} : afield Tryz.prog 94 (.agg c) 2 = c.toList[2]? := by simp [afield, apart, Tryz.underlying94, ag3]
theorem fa94_3 {a : Addr} (ha : a.spot = none) : afieldAddr Tryz.prog 94 (.pointer (some a)) 3 = some (.pointer (some ⟨a.block, a.off + 3, none⟩)) := by simp [afieldAddr, Tryz.underlying94, sz3, ha, addo]
theorem fd94_3 {c : Array Value} : afield Tryz.prog 94 (.agg c) 3 = c.toList[3]? := by simp [afield, apart, Tryz.underlying94, ag3]
theorem bd94 {ps : List (Nat × Value)} : abuild Tryz.prog 94 ps = (afill (fun i => ([(0, 1), (1, 1), (2, 1), (3, 1)] : List (Nat × Nat))[i]?) [.slice none 0 0, .int .i64 0, .int .i64 0, .int .i64 0] ps).map fun l => .agg l.toArray := by simp [abuild, zr94, Tryz.underlying94, aplaces, sz3, sz92, vcells]
theorem ld99 (hE : E.P = Tryz.prog) {a : Addr} : aload E h 99 (.pointer (some a)) = (acells E h a 1).bind fun l => l[0]? := by simp only [aload, hE, ag99]
theorem st99 (hE : E.P = Tryz.prog) {a : Addr} {v : Value} : astore E h 99 (.pointer (some a)) v = if 1 = (vcells v).length then awrite h a (vcells v) else none := by simp [astore, hE, sz99]
theorem al99 : aalloc Tryz.prog ev (.alloc 99) = some (fun b => .pointer (some ⟨b, 0, none⟩), .cells [.nilFunc] 99 true) := by simp [aalloc, zr99, vcells]
theorem ld103 (hE : E.P = Tryz.prog) {a : Addr} : aload E h 103 (.pointer (some a)) = (acells E h a 5).map fun l => .agg l.toArray := by simp only [aload, hE, ag103, sz103]
theorem st103 (hE : E.P = Tryz.prog) {a : Addr} {v : Value} : astore E h 103 (.pointer (some a)) v = if 5 = (vcells v).length then awrite h a (vcells v) else none := by simp [astore, hE, sz103]
theorem al103 : aalloc Tryz.prog ev (.alloc 103) = some (fun b => .pointer (some ⟨b, 0, none⟩), .cells [.int .i64 0, .int .i64 0, .int .i64 0, .bool false, .int .i64 0] 103 true) := by simp [aalloc, zr103, vcells]
theorem fa103_0 {a : Addr} (ha : a.spot = none) : afieldAddr Tryz.prog 103 (.pointer (some a)) 0 = some (.pointer (some ⟨a.block, a.off + 0, none⟩)) := by simp [afieldAddr, Tryz.underlying103, sz3, ha, addo]
theorem fd103_0 {c : Array Value} : afield Tryz.prog 103 (.agg c) 0 = c.toList[0]? := by simp [afield, apart, Tryz.underlying103, ag3]
theorem fa103_1 {a : Addr} (ha : a.spot = none) : afieldAddr Tryz.prog 103 (.pointer (some a)) 1 = some (.pointer (some ⟨a.block, a.off + 1, none⟩)) := by simp [afieldAddr, Tryz.underlying103, sz3, ha, addo]
theorem fd103_1 {c : Array Value} : afield Tryz.prog 103 (.agg c) 1 = c.toList[1]? := by simp [afield, apart, Tryz.underlying103, ag3]
theorem fa103_2 {a : Addr} (ha : a.spot = none) : afieldAddr Tryz.prog 103 (.pointer (some a)) 2 = some (.pointer (some ⟨a.block, a.off + 2, none⟩)) := by simp [afieldAddr, Tryz.underlying103, sz3, ha, addo]
theorem fd103_2 {c : Array Value} : afield Tryz.prog 103 (.agg c) 2 = c.toList[2]? := by simp [afield, apart, Tryz.underlying103, ag3]
theorem fa103_3 {a : Addr} (ha : a.spot = none) : afieldAddr Tryz.prog 103 (.pointer (some a)) 3 = some (.pointer (some ⟨a.block, a.off + 3, none⟩)) := by simp [afieldAddr, Tryz.underlying103, sz4, ha, addo]
theorem fd103_3 {c : Array Value} : afield Tryz.prog 103 (.agg c) 3 = c.toList[3]? := by simp [afield, apart, Tryz.underlying103, ag4]
theorem fa103_4 {a : Addr} (ha : a.spot = none) : afieldAddr Tryz.prog 103 (.pointer (some a)) 4 = some (.pointer (some ⟨a.block, a.off + 4, none⟩)) := by simp [afieldAddr, Tryz.underlying103, sz3, ha, addo]
theorem fd103_4 {c : Array Value} : afield Tryz.prog 103 (.agg c) 4 = c.toList[4]? := by simp [afield, apart, Tryz.underlying103, ag3]
theorem bd103 {ps : List (Nat × Value)} : abuild Tryz.prog 103 ps = (afill (fun i => ([(0, 1), (1, 1), (2, 1), (3, 1), (4, 1)] : List (Nat × Nat))[i]?) [.int .i64 0, .int .i64 0, .int .i64 0, .bool false, .int .i64 0] ps).map fun l => .agg l.toArray := by simp [abuild, zr103, Tryz.underlying103, aplaces, sz3, sz4, vcells]
theorem ld110 (hE : E.P = Tryz.prog) {a : Addr} : aload E h 110 (.pointer (some a)) = (acells E h a 1).bind fun l => l[0]? := by simp only [aload, hE, ag110]
theorem st110 (hE : E.P = Tryz.prog) {a : Addr} {v : Value} : astore E h 110 (.pointer (some a)) v = if 1 = (vcells v).length then awrite h a (vcells v) else none := by simp [astore, hE, sz110]
theorem al110 : aalloc Tryz.prog ev (.alloc 110) = some (fun b => .pointer (some ⟨b, 0, none⟩), .cells [.map none] 110 true) := by simp [aalloc, zr110, vcells]
theorem ld123 (hE : E.P = Tryz.prog) {a : Addr} : aload E h 123 (.pointer (some a)) = (acells E h a 1).bind fun l => l[0]? := by simp only [aload, hE, ag123]
theorem st123 (hE : E.P = Tryz.prog) {a : Addr} {v : Value} : astore E h 123 (.pointer (some a)) v = if 1 = (vcells v).length then awrite h a (vcells v) else none := by simp [astore, hE, sz123]
theorem al123 : aalloc Tryz.prog ev (.alloc 123) = some (fun b => .pointer (some ⟨b, 0, none⟩), .cells [.pointer none] 123 true) := by simp [aalloc, zr123, vcells]
theorem ld125 (hE : E.P = Tryz.prog) {a : Addr} : aload E h 125 (.pointer (some a)) = (acells E h a 2).map fun l => .agg l.toArray := by simp only [aload, hE, ag125, sz125]
theorem st125 (hE : E.P = Tryz.prog) {a : Addr} {v : Value} : astore E h 125 (.pointer (some a)) v = if 2 = (vcells v).length then awrite h a (vcells v) else none := by simp [astore, hE, sz125]
theorem al125 : aalloc Tryz.prog ev (.alloc 125) = some (fun b => .pointer (some ⟨b, 0, none⟩), .cells [.pointer none, .int .i64 0] 125 true) := by simp [aalloc, zr125, vcells]
theorem fa125_0 {a : Addr} (ha : a.spot = none) : afieldAddr Tryz.prog 125 (.pointer (some a)) 0 = some (.pointer (some ⟨a.block, a.off + 0, none⟩)) := by simp [afieldAddr, Tryz.underlying125, sz28, ha, addo]
theorem fd125_0 {c : Array Value} : afield Tryz.prog 125 (.agg c) 0 = c.toList[0]? := by simp [afield, apart, Tryz.underlying125, ag28]
theorem fa125_1 {a : Addr} (ha : a.spot = none) : afieldAddr Tryz.prog 125 (.pointer (some a)) 1 = some (.pointer (some ⟨a.block, a.off + 1, none⟩)) := by simp [afieldAddr, Tryz.underlying125, sz3, ha, addo]
theorem fd125_1 {c : Array Value} : afield Tryz.prog 125 (.agg c) 1 = c.toList[1]? := by simp [afield, apart, Tryz.underlying125, ag3]
theorem bd125 {ps : List (Nat × Value)} : abuild Tryz.prog 125 ps = (afill (fun i => ([(0, 1), (1, 1)] : List (Nat × Nat))[i]?) [.pointer none, .int .i64 0] ps).map fun l => .agg l.toArray := by simp [abuild, zr125, Tryz.underlying125, aplaces, sz28, sz3, vcells]
theorem ld127 (hE : E.P = Tryz.prog) {a : Addr} : aload E h 127 (.pointer (some a)) = (acells E h a 3).map fun l => .agg l.toArray := by simp only [aload, hE, ag127, sz127]
theorem st127 (hE : E.P = Tryz.prog) {a : Addr} {v : Value} : astore E h 127 (.pointer (some a)) v = if 3 = (vcells v).length then awrite h a (vcells v) else none := by simp [astore, hE, sz127]
theorem al127 : aalloc Tryz.prog ev (.alloc 127) = some (fun b => .pointer (some ⟨b, 0, none⟩), .cells [.int .i64 0, .slice none 0 0, .slice none 0 0] 127 true) := by simp [aalloc, zr127, vcells]
theorem fa127_0 {a : Addr} (ha : a.spot = none) : afieldAddr Tryz.prog 127 (.pointer (some a)) 0 = some (.pointer (some ⟨a.block, a.off + 0, none⟩)) := by simp [afieldAddr, Tryz.underlying127, sz3, ha, addo]
theorem fd127_0 {c : Array Value} : afield Tryz.prog 127 (.agg c) 0 = c.toList[0]? := by simp [afield, apart, Tryz.underlying127, ag3]
theorem fa127_1 {a : Addr} (ha : a.spot = none) : afieldAddr Tryz.prog 127 (.pointer (some a)) 1 = some (.pointer (some ⟨a.block, a.off + 1, none⟩)) := by simp [afieldAddr, Tryz.underlying127, sz50, ha, addo]
theorem fd127_1 {c : Array Value} : afield Tryz.prog 127 (.agg c) 1 = c.toList[1]? := by simp [afield, apart, Tryz.underlying127, ag50]
theorem fa127_2 {a : Addr} (ha : a.spot = none) : afieldAddr Tryz.prog 127 (.pointer (some a)) 2 = some (.pointer (some ⟨a.block, a.off + 2, none⟩)) := by simp [afieldAddr, Tryz.underlying127, sz50, ha, addo]
theorem fd127_2 {c : Array Value} : afield Tryz.prog 127 (.agg c) 2 = c.toList[2]? := by simp [afield, apart, Tryz.underlying127, ag50]
theorem bd127 {ps : List (Nat × Value)} : abuild Tryz.prog 127 ps = (afill (fun i => ([(0, 1), (1, 1), (2, 1)] : List (Nat × Nat))[i]?) [.int .i64 0, .slice none 0 0, .slice none 0 0] ps).map fun l => .agg l.toArray := by simp [abuild, zr127, Tryz.underlying127, aplaces, sz3, sz50, vcells]
theorem ld157 (hE : E.P = Tryz.prog) {a : Addr} : aload E h 157 (.pointer (some a)) = (acells E h a 1).bind fun l => l[0]? := by simp only [aload, hE, ag157]
theorem st157 (hE : E.P = Tryz.prog) {a : Addr} {v : Value} : astore E h 157 (.pointer (some a)) v = if 1 = (vcells v).length then awrite h a (vcells v) else none := by simp [astore, hE, sz157]
theorem al157 : aalloc Tryz.prog ev (.alloc 157) = some (fun b => .pointer (some ⟨b, 0, none⟩), .cells [.int .u32 0] 157 true) := by simp [aalloc, zr157, vcells]
theorem ld159 (hE : E.P = Tryz.prog) {a : Addr} : aload E h 159 (.pointer (some a)) = (acells E h a 4).map fun l => .agg l.toArray := by simp only [aload, hE, ag159, sz159]
theorem st159 (hE : E.P = Tryz.prog) {a : Addr} {v : Value} : astore E h 159 (.pointer (some a)) v = if 4 = (vcells v).length then awrite h a (vcells v) else none := by simp [astore, hE, sz159]
theorem al159 : aalloc Tryz.prog ev (.alloc 159) = some (fun b => .pointer (some ⟨b, 0, none⟩), .cells [.int .u32 0, .bool false, .int .i64 0, .int .i64 0] 159 true) := by simp [aalloc, zr159, vcells]
theorem fa159_0 {a : Addr} (ha : a.spot = none) : afieldAddr Tryz.prog 159 (.pointer (some a)) 0 = some (.pointer (some ⟨a.block, a.off + 0, none⟩)) := by simp [afieldAddr, Tryz.underlying159, sz157, ha, addo]
theorem fd159_0 {c : Array Value} : afield Tryz.prog 159 (.agg c) 0 = c.toList[0]? := by simp [afield, apart, Tryz.underlying159, ag157]
theorem fa159_1 {a : Addr} (ha : a.spot = none) : afieldAddr Tryz.prog 159 (.pointer (some a)) 1 = some (.pointer (some ⟨a.block, a.off + 1, none⟩)) := by simp [afieldAddr, Tryz.underlying159, sz4, ha, addo]
theorem fd159_1 {c : Array Value} : afield Tryz.prog 159 (.agg c) 1 = c.toList[1]? := by simp [afield, apart, Tryz.underlying159, ag4]
theorem fa159_2 {a : Addr} (ha : a.spot = none) : afieldAddr Tryz.prog 159 (.pointer (some a)) 2 = some (.pointer (some ⟨a.block, a.off + 2, none⟩)) := by simp [afieldAddr, Tryz.underlying159, sz3, ha, addo]
theorem fd159_2 {c : Array Value} : afield Tryz.prog 159 (.agg c) 2 = c.toList[2]? := by simp [afield, apart, Tryz.underlying159, ag3]
theorem fa159_3 {a : Addr} (ha : a.spot = none) : afieldAddr Tryz.prog 159 (.pointer (some a)) 3 = some (.pointer (some ⟨a.block, a.off + 3, none⟩)) := by simp [afieldAddr, Tryz.underlying159, sz3, ha, addo]
theorem fd159_3 {c : Array Value} : afield Tryz.prog 159 (.agg c) 3 = c.toList[3]? := by simp [afield, apart, Tryz.underlying159, ag3]
theorem bd159 {ps : List (Nat × Value)} : abuild Tryz.prog 159 ps = (afill (fun i => ([(0, 1), (1, 1), (2, 1), (3, 1)] : List (Nat × Nat))[i]?) [.int .u32 0, .bool false, .int .i64 0, .int .i64 0] ps).map fun l => .agg l.toArray := by simp [abuild, zr159, Tryz.underlying159, aplaces, sz157, sz3, sz4, vcells]
theorem ld179 (hE : E.P = Tryz.prog) {a : Addr} : aload E h 179 (.pointer (some a)) = (acells E h a 1).bind fun l => l[0]? := by simp only [aload, hE, ag179]
theorem st179 (hE : E.P = Tryz.prog) {a : Addr} {v : Value} : astore E h 179 (.pointer (some a)) v = if 1 = (vcells v).length then awrite h a (vcells v) else none := by simp [astore, hE, sz179]
theorem al179 : aalloc Tryz.prog ev (.alloc 179) = some (fun b => .pointer (some ⟨b, 0, none⟩), .cells [.nilFunc] 179 true) := by simp [aalloc, zr179, vcells]
theorem ld184 (hE : E.P = Tryz.prog) {a : Addr} : aload E h 184 (.pointer (some a)) = (acells E h a 1).bind fun l => l[0]? := by simp only [aload, hE, ag184]
theorem st184 (hE : E.P = Tryz.prog) {a : Addr} {v : Value} : astore E h 184 (.pointer (some a)) v = if 1 = (vcells v).length then awrite h a (vcells v) else none := by simp [astore, hE, sz184]
theorem al184 : aalloc Tryz.prog ev (.alloc 184) = some (fun b => .pointer (some ⟨b, 0, none⟩), .cells [.slice none 0 0] 184 true) := by simp [aalloc, zr184, vcells]
theorem ia184 {a : Addr} {len cap : Nat} {k : IntKind} {n : Int} (ha : a.spot = none) (h0 : 0 ≤ n) (h1 : n < len) : aindexAddr Tryz.prog 184 (.slice (some a) len cap) (.int k n) = some (.pointer (some ⟨a.block, a.off + n.toNat * 1, none⟩)) := by simp [aindexAddr, Tryz.underlying184, sz21, ha, addo, h0, h1]
theorem le184 {a : Option Addr} {len cap : Nat} : alen Tryz.prog 184 (.slice a len cap) = some (.int .i64 len) := by simp [alen, Tryz.underlying184]
theorem in21 : (Tryz.prog.info? 21).map (fun i => (i.size, i.bytes)) = some (1, 4) := by kernel_rfl
theorem mk184 {k k' : IntKind} {l c : Int} (h0 : 0 ≤ l) (h1 : l ≤ c) (h2 : 4 * c ≤ 281474976710656) (h3 : c ≤ 9223372036854775807) : amk Tryz.prog 184 (.int k l) (.int k' c) = some (fun b => .slice (some ⟨b, 0, none⟩) l.toNat c.toNat, .cells (arep c.toNat [.int .i32 0]) 21 true) := makeSlice_at (E := ⟨Tryz.prog, 0, fun _ => none, fun _ _ => none⟩) ⟨Tryz.underlying184, in21, ⟨_, zr21, rfl⟩, by decide⟩ ⟨_, zr21, rfl⟩ h0 h1 h2 h3
theorem bs184 {v : Value} (hl : (vcells v).length = 1) : abs1 Tryz.prog 184 1 [(0, v)] = some (fun b => .slice (some ⟨b, 0, none⟩) 1 1, .cells (vcells v) 21 true) := buildSlice_one (E := ⟨Tryz.prog, 0, fun _ => none, fun _ _ => none⟩) ⟨Tryz.underlying184, in21, ⟨_, zr21, rfl⟩, by decide⟩ hl (by decide)
theorem el184 (hE : E.P = Tryz.prog) : Elem E 184 21 1 4 := ⟨by rw [hE]; exact Tryz.underlying184, by rw [hE]; exact in21, ⟨_, by rw [hE]; exact zr21, rfl⟩, by decide⟩
theorem ld187 (hE : E.P = Tryz.prog) {a : Addr} : aload E h 187 (.pointer (some a)) = (acells E h a 1).bind fun l => l[0]? := by simp only [aload, hE, ag187]
theorem st187 (hE : E.P = Tryz.prog) {a : Addr} {v : Value} : astore E h 187 (.pointer (some a)) v = if 1 = (vcells v).length then awrite h a (vcells v) else none := by simp [astore, hE, sz187]
theorem al187 : aalloc Tryz.prog ev (.alloc 187) = some (fun b => .pointer (some ⟨b, 0, none⟩), .cells [.slice none 0 0] 187 true) := by simp [aalloc, zr187, vcells]
theorem ia187 {a : Addr} {len cap : Nat} {k : IntKind} {n : Int} (ha : a.spot = none) (h0 : 0 ≤ n) (h1 : n < len) : aindexAddr Tryz.prog 187 (.slice (some a) len cap) (.int k n) = some (.pointer (some ⟨a.block, a.off + n.toNat * 8, none⟩)) := by simp [aindexAddr, Tryz.underlying187, sz190, ha, addo, h0, h1]
theorem le187 {a : Option Addr} {len cap : Nat} : alen Tryz.prog 187 (.slice a len cap) = some (.int .i64 len) := by simp [alen, Tryz.underlying187]
theorem in190 : (Tryz.prog.info? 190).map (fun i => (i.size, i.bytes)) = some (8, 128) := by kernel_rfl
theorem mk187 {k k' : IntKind} {l c : Int} (h0 : 0 ≤ l) (h1 : l ≤ c) (h2 : 128 * c ≤ 281474976710656) (h3 : c ≤ 9223372036854775807) : amk Tryz.prog 187 (.int k l) (.int k' c) = some (fun b => .slice (some ⟨b, 0, none⟩) l.toNat c.toNat, .cells (arep c.toNat [.int .i64 0, .slice none 0 0, .string .empty, .int .i64 0, .int .i64 0, .string .empty, .slice none 0 0, .slice none 0 0]) 190 true) := makeSlice_at (E := ⟨Tryz.prog, 0, fun _ => none, fun _ _ => none⟩) ⟨Tryz.underlying187, in190, ⟨_, zr190, rfl⟩, by decide⟩ ⟨_, zr190, rfl⟩ h0 h1 h2 h3
theorem bs187 {v : Value} (hl : (vcells v).length = 8) : abs1 Tryz.prog 187 1 [(0, v)] = some (fun b => .slice (some ⟨b, 0, none⟩) 1 1, .cells (vcells v) 190 true) := buildSlice_one (E := ⟨Tryz.prog, 0, fun _ => none, fun _ _ => none⟩) ⟨Tryz.underlying187, in190, ⟨_, zr190, rfl⟩, by decide⟩ hl (by decide)
theorem el187 (hE : E.P = Tryz.prog) : Elem E 187 190 8 128 := ⟨by rw [hE]; exact Tryz.underlying187, by rw [hE]; exact in190, ⟨_, by rw [hE]; exact zr190, rfl⟩, by decide⟩
theorem ld188 (hE : E.P = Tryz.prog) {a : Addr} : aload E h 188 (.pointer (some a)) = (acells E h a 1).bind fun l => l[0]? := by simp only [aload, hE, ag188]
theorem st188 (hE : E.P = Tryz.prog) {a : Addr} {v : Value} : astore E h 188 (.pointer (some a)) v = if 1 = (vcells v).length then awrite h a (vcells v) else none := by simp [astore, hE, sz188]
theorem al188 : aalloc Tryz.prog ev (.alloc 188) = some (fun b => .pointer (some ⟨b, 0, none⟩), .cells [.pointer none] 188 true) := by simp [aalloc, zr188, vcells]
theorem ld190 (hE : E.P = Tryz.prog) {a : Addr} : aload E h 190 (.pointer (some a)) = (acells E h a 8).map fun l => .agg l.toArray := by simp only [aload, hE, ag190, sz190]
theorem st190 (hE : E.P = Tryz.prog) {a : Addr} {v : Value} : astore E h 190 (.pointer (some a)) v = if 8 = (vcells v).length then awrite h a (vcells v) else none := by simp [astore, hE, sz190]
theorem al190 : aalloc Tryz.prog ev (.alloc 190) = some (fun b => .pointer (some ⟨b, 0, none⟩), .cells [.int .i64 0, .slice none 0 0, .string .empty, .int .i64 0, .int .i64 0, .string .empty, .slice none 0 0, .slice none 0 0] 190 true) := by simp [aalloc, zr190, vcells]
theorem fa190_0 {a : Addr} (ha : a.spot = none) : afieldAddr Tryz.prog 190 (.pointer (some a)) 0 = some (.pointer (some ⟨a.block, a.off + 0, none⟩)) := by simp [afieldAddr, Tryz.underlying190, sz3, ha, addo]
theorem fd190_0 {c : Array Value} : afield Tryz.prog 190 (.agg c) 0 = c.toList[0]? := by simp [afield, apart, Tryz.underlying190, ag3]
theorem fa190_1 {a : Addr} (ha : a.spot = none) : afieldAddr Tryz.prog 190 (.pointer (some a)) 1 = some (.pointer (some ⟨a.block, a.off + 1, none⟩)) := by simp [afieldAddr, Tryz.underlying190, sz50, ha, addo]
theorem fd190_1 {c : Array Value} : afield Tryz.prog 190 (.agg c) 1 = c.toList[1]? := by simp [afield, apart, Tryz.underlying190, ag50]
theorem fa190_2 {a : Addr} (ha : a.spot = none) : afieldAddr Tryz.prog 190 (.pointer (some a)) 2 = some (.pointer (some ⟨a.block, a.off + 2, none⟩)) := by simp [afieldAddr, Tryz.underlying190, sz9, ha, addo]
theorem fd190_2 {c : Array Value} : afield Tryz.prog 190 (.agg c) 2 = c.toList[2]? := by simp [afield, apart, Tryz.underlying190, ag9]
theorem fa190_3 {a : Addr} (ha : a.spot = none) : afieldAddr Tryz.prog 190 (.pointer (some a)) 3 = some (.pointer (some ⟨a.block, a.off + 3, none⟩)) := by simp [afieldAddr, Tryz.underlying190, sz25, ha, addo]
theorem fd190_3 {c : Array Value} : afield Tryz.prog 190 (.agg c) 3 = some (.agg ((c.toList.drop 3).take 5).toArray) := by simp [afield, apart, Tryz.underlying190, ag25, sz25]
theorem bd190 {ps : List (Nat × Value)} : abuild Tryz.prog 190 ps = (afill (fun i => ([(0, 1), (1, 1), (2, 1), (3, 5)] : List (Nat × Nat))[i]?) [.int .i64 0, .slice none 0 0, .string .empty, .int .i64 0, .int .i64 0, .string .empty, .slice none 0 0, .slice none 0 0] ps).map fun l => .agg l.toArray := by simp [abuild, zr190, Tryz.underlying190, aplaces, sz25, sz3, sz50, sz9, vcells]
theorem ld191 (hE : E.P = Tryz.prog) {a : Addr} : aload E h 191 (.pointer (some a)) = (acells E h a 1).bind fun l => l[0]? := by simp only [aload, hE, ag191]
theorem st191 (hE : E.P = Tryz.prog) {a : Addr} {v : Value} : astore E h 191 (.pointer (some a)) v = if 1 = (vcells v).length then awrite h a (vcells v) else none := by simp [astore, hE, sz191]
theorem al191 : aalloc Tryz.prog ev (.alloc 191) = some (fun b => .pointer (some ⟨b, 0, none⟩), .cells [.int .u64 0] 191 true) := by simp [aalloc, zr191, vcells]
theorem ld198 (hE : E.P = Tryz.prog) {a : Addr} : aload E h 198 (.pointer (some a)) = (acells E h a 1).bind fun l => l[0]? := by simp only [aload, hE, ag198]
theorem st198 (hE : E.P = Tryz.prog) {a : Addr} {v : Value} : astore E h 198 (.pointer (some a)) v = if 1 = (vcells v).length then awrite h a (vcells v) else none := by simp [astore, hE, sz198]
theorem al198 : aalloc Tryz.prog ev (.alloc 198) = some (fun b => .pointer (some ⟨b, 0, none⟩), .cells [.pointer none] 198 true) := by simp [aalloc, zr198, vcells]
theorem ld231 (hE : E.P = Tryz.prog) {a : Addr} : aload E h 231 (.pointer (some a)) = (acells E h a 0).map fun l => .agg l.toArray := by simp only [aload, hE, ag231, sz231]
theorem st231 (hE : E.P = Tryz.prog) {a : Addr} {v : Value} : astore E h 231 (.pointer (some a)) v = if 0 = (vcells v).length then awrite h a (vcells v) else none := by simp [astore, hE, sz231]
theorem al231 : aalloc Tryz.prog ev (.alloc 231) = some (fun b => .pointer (some ⟨b, 0, none⟩), .cells [] 231 true) := by simp [aalloc, zr231, vcells]
theorem ld233 (hE : E.P = Tryz.prog) {a : Addr} : aload E h 233 (.pointer (some a)) = (acells E h a 0).map fun l => .agg l.toArray := by simp only [aload, hE, ag233, sz233]
theorem st233 (hE : E.P = Tryz.prog) {a : Addr} {v : Value} : astore E h 233 (.pointer (some a)) v = if 0 = (vcells v).length then awrite h a (vcells v) else none := by simp [astore, hE, sz233]
theorem al233 : aalloc Tryz.prog ev (.alloc 233) = some (fun b => .pointer (some ⟨b, 0, none⟩), .cells [] 233 true) := by simp [aalloc, zr233, vcells]
theorem bd233 {ps : List (Nat × Value)} : abuild Tryz.prog 233 ps = (afill (fun i => ([(0, 0)] : List (Nat × Nat))[i]?) [] ps).map fun l => .agg l.toArray := by simp [abuild, zr233, Tryz.underlying233, aplaces, sz231, vcells]
variable {O l : List Oper} {Q R : Cont} {tm : Tr Value} {d : Option Nat} {x : Operand}
theorem wlen9 (hE : E.P = Tryz.prog) : wop1 E (.call ⟨.builtin .len, #[x], #[9]⟩) d R tm h = kpure (alen Tryz.prog 9 (opd tm x)) d R tm h := by rw [wop_len (by rw [hE]; exact Tryz.underlying9) rfl, hE]
theorem le9 {s : ByteArray} : alen Tryz.prog 9 (.string s) = some (.int .i64 s.size) := by simp [alen, Tryz.underlying9]
theorem wlen22 (hE : E.P = Tryz.prog) : wop1 E (.call ⟨.builtin .len, #[x], #[22]⟩) d R tm h = kpure (alen Tryz.prog 22 (opd tm x)) d R tm h := by rw [wop_len (by rw [hE]; exact Tryz.underlying22) rfl, hE]
theorem wlen23 (hE : E.P = Tryz.prog) : wop1 E (.call ⟨.builtin .len, #[x], #[23]⟩) d R tm h = kpure (alen Tryz.prog 23 (opd tm x)) d R tm h := by rw [wop_len (by rw [hE]; exact Tryz.underlying23) rfl, hE]
theorem wlen50 (hE : E.P = Tryz.prog) : wop1 E (.call ⟨.builtin .len, #[x], #[50]⟩) d R tm h = kpure (alen Tryz.prog 50 (opd tm x)) d R tm h := by rw [wop_len (by rw [hE]; exact Tryz.underlying50) rfl, hE]
theorem wlen66 (hE : E.P = Tryz.prog) : wop1 E (.call ⟨.builtin .len, #[x], #[66]⟩) d R tm h = kpure (alen Tryz.prog 66 (opd tm x)) d R tm h := by rw [wop_len (by rw [hE]; exact Tryz.underlying66) rfl, hE]
theorem wlen92 (hE : E.P = Tryz.prog) : wop1 E (.call ⟨.builtin .len, #[x], #[92]⟩) d R tm h = kpure (alen Tryz.prog 92 (opd tm x)) d R tm h := by rw [wop_len (by rw [hE]; exact Tryz.underlying92) rfl, hE]
theorem wlen187 (hE : E.P = Tryz.prog) : wop1 E (.call ⟨.builtin .len, #[x], #[187]⟩) d R tm h = kpure (alen Tryz.prog 187 (opd tm x)) d R tm h := by rw [wop_len (by rw [hE]; exact Tryz.underlying187) rfl, hE]
theorem wcv2_5 (hE : E.P = Tryz.prog) : wop1 E (.convert 2 5 x) d R tm h = kpure (aconv Tryz.prog 2 5 (opd tm x)) d R tm h := by rw [wop_convert (by rw [hE]; exact Tryz.underlying2) rfl, hE]
theorem wcv2_33 (hE : E.P = Tryz.prog) : wop1 E (.convert 2 33 x) d R tm h = kpure (aconv Tryz.prog 2 33 (opd tm x)) d R tm h := by rw [wop_convert (by rw [hE]; exact Tryz.underlying2) rfl, hE]
theorem wcv3_5 (hE : E.P = Tryz.prog) : wop1 E (.convert 3 5 x) d R tm h = kpure (aconv Tryz.prog 3 5 (opd tm x)) d R tm h := by rw [wop_convert (by rw [hE]; exact Tryz.underlying3) rfl, hE]
theorem wcv3_21 (hE : E.P = Tryz.prog) : wop1 E (.convert 3 21 x) d R tm h = kpure (aconv Tryz.prog 3 21 (opd tm x)) d R tm h := by rw [wop_convert (by rw [hE]; exact Tryz.underlying3) rfl, hE]
theorem wcv3_33 (hE : E.P = Tryz.prog) : wop1 E (.convert 3 33 x) d R tm h = kpure (aconv Tryz.prog 3 33 (opd tm x)) d R tm h := by rw [wop_convert (by rw [hE]; exact Tryz.underlying3) rfl, hE]
theorem wcv5_3 (hE : E.P = Tryz.prog) : wop1 E (.convert 5 3 x) d R tm h = kpure (aconv Tryz.prog 5 3 (opd tm x)) d R tm h := by rw [wop_convert (by rw [hE]; exact Tryz.underlying5) rfl, hE]
theorem wcv5_33 (hE : E.P = Tryz.prog) : wop1 E (.convert 5 33 x) d R tm h = kpure (aconv Tryz.prog 5 33 (opd tm x)) d R tm h := by rw [wop_convert (by rw [hE]; exact Tryz.underlying5) rfl, hE]
theorem wcv33_2 (hE : E.P = Tryz.prog) : wop1 E (.convert 33 2 x) d R tm h = kpure (aconv Tryz.prog 33 2 (opd tm x)) d R tm h := by rw [wop_convert (by rw [hE]; exact Tryz.underlying33) rfl, hE]
theorem wcv33_3 (hE : E.P = Tryz.prog) : wop1 E (.convert 33 3 x) d R tm h = kpure (aconv Tryz.prog 33 3 (opd tm x)) d R tm h := by rw [wop_convert (by rw [hE]; exact Tryz.underlying33) rfl, hE]
theorem wcv33_5 (hE : E.P = Tryz.prog) : wop1 E (.convert 33 5 x) d R tm h = kpure (aconv Tryz.prog 33 5 (opd tm x)) d R tm h := by rw [wop_convert (by rw [hE]; exact Tryz.underlying33) rfl, hE]
theorem wcv66_9 (hE : E.P = Tryz.prog) : wop1 E (.convert 66 9 x) d R tm h = kpure (aread E h (opd tm) (.convert 66 9 x)) d R tm h := by rw [wop_convertB (by rw [hE]; exact Tryz.underlying66)]
theorem wcv157_33 (hE : E.P = Tryz.prog) : wop1 E (.convert 157 33 x) d R tm h = kpure (aconv Tryz.prog 157 33 (opd tm x)) d R tm h := by rw [wop_convert (by rw [hE]; exact Tryz.underlying157) rfl, hE]
attribute [push_cast] ld2 st2 al2 ld3 st3 al3 ld4 st4 al4 ld5 st5 al5 ld9 st9 al9 ld16 st16 al16 ld21 st21 al21 ld22 st22 al22 le22 ld23 st23 al23 le23 ld25 st25 al25 fa25_0 fd25_0 fa25_1 fd25_1 fa25_2 fd25_2 fa25_3 fd25_3 fa25_4 fd25_4 bd25 ld28 st28 al28 ld30 st30 al30 ld33 st33 al33 ld37 st37 al37 ld42 st42 al42 ld50 st50 al50 le50 ld66 st66 al66 le66 ld79 st79 al79 fa79_0 fd79_0 bd79 ld81 st81 al81 ld82 st82 al82 ld84 st84 al84 ld86 st86 al86 fa86_0 fd86_0 fa86_1 fd86_1 fa86_2 fd86_2 fa86_3 fd86_3 bd86 ld88 st88 al88 fa88_0 fd88_0 fa88_1 fd88_1 fa88_2 fd88_2 fa88_3 fd88_3 fa88_4 fd88_4 fa88_5 fd88_5 bd88 ld91 st91 al91 fa91_0 fd91_0 fa91_1 fd91_1 bd91 ld92 st92 al92 le92 ld94 st94 al94 fa94_0 fd94_0 fa94_1 fd94_1 fa94_2 fd94_2 fa94_3 fd94_3 bd94 ld99 st99 al99 ld103 st103 al103 fa103_0 fd103_0 fa103_1 fd103_1 fa103_2 fd103_2 fa103_3 fd103_3 fa103_4 fd103_4 bd103 ld110 st110 al110 ld123 st123 al123 ld125 st125 al125 fa125_0 fd125_0 fa125_1 fd125_1 bd125 ld127 st127 al127 fa127_0 fd127_0 fa127_1 fd127_1 fa127_2 fd127_2 bd127 ld157 st157 al157 ld159 st159 al159 fa159_0 fd159_0 fa159_1 fd159_1 fa159_2 fd159_2 fa159_3 fd159_3 bd159 ld179 st179 al179 ld184 st184 al184 le184 ld187 st187 al187 le187 ld188 st188 al188 ld190 st190 al190 fa190_0 fd190_0 fa190_1 fd190_1 fa190_2 fd190_2 fa190_3 fd190_3 bd190 ld191 st191 al191 ld198 st198 al198 ld231 st231 al231 ld233 st233 al233 bd233 wlen9 le9 wlen22 wlen23 wlen50 wlen66 wlen92 wlen187 wcv2_5 wcv2_33 wcv3_5 wcv3_21 wcv3_33 wcv5_3 wcv5_33 wcv33_2 wcv33_3 wcv33_5 wcv66_9 wcv157_33 Tryz.underlying2 Tryz.underlying3 Tryz.underlying5 Tryz.underlying9 Tryz.underlying21 Tryz.underlying33 Tryz.underlying50 Tryz.underlying66 Tryz.underlying82 Tryz.underlying157 Tryz.underlying187
end
end Go.Proofs.YthfopcdammlmfaaGreatDoor
