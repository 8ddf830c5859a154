/- The engine, tenth part: append, copy, clear. -/
import Derived.Test.YtigifaghgnbgoaaGreatEng9
namespace Go.Tm

theorem run_lenOf {P : Program} {ρ : Ren} {x : Value} {n : Nat} (h : alenOf x = some n) (w : World) : (Builtin.lenOf (ren ρ x)).run P w = .ok n w := by
  unfold alenOf at h
  split at h
  · rename_i a n' c
    injection h with h; subst h
    cases a <;> simp [ren, Builtin.lenOf]
  · injection h with h; subst h; simp [ren, Builtin.lenOf]
  · cases h

theorem run_asrc {E : Env} {B : Nat} {ρ : Ren} {h : Heap} {w : World} (H : HR E B ρ h w) {size n : Nat} {x : Value} {l : List Value} (hx : asrc E h size x n = some l) :
    (Builtin.firstCells size n (ren ρ x)).run E.P w = .ok (l.map (ren ρ)).toArray w ∧ ∀ v, v ∈ l → sc h.next v = true := by
  unfold asrc at hx
  split at hx
  · split at hx
    · injection hx with hx; subst hx
      exact ⟨by simp [ren, Builtin.firstCells], by simp⟩
    · cases hx
  · rename_i a _ _
    split at hx
    · rename_i h0
      injection hx with hx; subst hx
      refine ⟨?_, by simp⟩
      simp only [ren, Builtin.firstCells, h0]
      simp [loadCells, loadCellsFrom]
    · obtain ⟨h1, h2, h3, hsp⟩ := acells_run H hx
      refine ⟨?_, h3⟩
      simp only [ren, Builtin.firstCells, rens_none hsp]
      have := run_loadCells_list (P := E.P) w (rena ρ a) (l.map (ren ρ)) h1
      rw [List.length_map, h2] at this
      exact this
  · rename_i s
    injection hx with hx; subst hx
    constructor
    · simp only [ren, Builtin.firstCells, Sem.run_pure]
      congr 1
      apply Array.ext'
      have e : (s.extract 0 n).data.toList = s.data.toList.take n := by simp [ByteArray.data_extract]
      simp only [Array.toList_map, e, List.map_map]
      rfl
    · intro v hv
      obtain ⟨b, _, rfl⟩ := List.mem_map.1 hv
      rfl
  · cases hx

theorem objR_grown {P : Program} {ρ : Ren} {r ex : Nat} {c hid : List Value} {e : TypeId} (hh : hid.length = ex * P.cellsOf e) :
    objR P ρ ⟨r, ex, 0⟩ (.cells c e false) (.cells (c.map (ren ρ) ++ hid).toArray e) := by
  refine ⟨rfl, ?_, [], hid, by simp, rfl, hh, ?_⟩
  · intro h; cases h
  · intro i _ h; simp at h

theorem zeroCells_list (z : List Value) (n : Nat) : ∃ l : List Value, Builtin.zeroCells z.toArray n = l.toArray ∧ l.length = n * z.length :=
  ⟨(Builtin.zeroCells z.toArray n).toList, by simp, by simp [Builtin.zeroCells]⟩

set_option maxHeartbeats 1000000 in
/-- append where there is no room: the elder cells and the new ones, and what else. -/
theorem run_append_grows {P : Program} {w : World} {t t1 ty e : TypeId} {d1 : TypeDesc} {i : TypeInfo} {z : Value} (hu : P.underlying t = some (.slice e)) (hu1 : P.underlying t1 = some d1) (hd : isIntD d1 = false)
    (hi : P.info? e = some i) (hz : i.zero = some z) {b : Option Addr} {sLen c n : Nat} {y : Value} (hn : (Builtin.lenOf y).run P w = .ok n w) {olds news : List Value}
    (ho : (Builtin.firstCells i.size sLen (.slice b sLen c)).run P w.drew = .ok olds.toArray w.drew) (hw : (Builtin.firstCells i.size n y).run P w.drew = .ok news.toArray w.drew)
    (hc : ¬ (sLen + n ≤ c)) (hb : (sLen + n) * i.bytes ≤ 140737488355328) (h63 : sLen + n ≤ 9223372036854775807) :
    (Builtin.append_ #[t, t1] ty #[.slice b sLen c, y]).run P w =
      .ok (.slice (some ⟨w.heap.size, 0, none⟩) (sLen + n) (grownCap w (sLen + n) c e))
        (w.drew.alloc (.cells (olds.toArray ++ news.toArray ++ Builtin.zeroCells z.cells (grownCap w (sLen + n) c e - (sLen + n))) e)) := by
  have hfit := growslice_fits (need := sLen + n) (old := c) (bytes := i.bytes) (by omega) hb
  have h63' : ¬ (9223372036854775807 < ((sLen : Int) + (n : Int))) := by omega
  have h48' : ¬ (281474976710656 < Builtin.nextslicecap (sLen + n) c * i.bytes) := by omega
  cases d1 <;> first
    | (cases hd; done)
    | (simp [Builtin.append_, run_underlying hu, run_underlying hu1, sizeOf, typeInfo, zeroValue, hi, hz, hn, hc, h63', h48', Question.forced, ho, hw, newRow, grownCap]
       congr 2
       apply Array.ext'
       simp [List.append_assoc])

theorem grownCap_le (w : World) (need old : Nat) (e : TypeId) : need ≤ grownCap w need old e := by
  simp only [grownCap, Question.cut]; omega

theorem run_append_room {P : Program} {w w' : World} {t t1 ty e : TypeId} {d1 : TypeDesc} {size : Nat} (hu : P.underlying t = some (.slice e)) (hu1 : P.underlying t1 = some d1) (hd : isIntD d1 = false)
    (hz : asz P e = some size) {b : Option Addr} {sLen c n : Nat} {y : Value} (hn : (Builtin.lenOf y).run P w = .ok n w) {news : List Value}
    (hw : (Builtin.firstCells size n y).run P w = .ok news.toArray w) (hc : sLen + n ≤ c)
    (hst : (match b with | some a => storeCells (a.add (sLen * size)) news 0 | none => pure () : Sem Unit).run P w = .ok () w') :
    (Builtin.append_ #[t, t1] ty #[.slice b sLen c, y]).run P w = .ok (.slice b (sLen + n) c) w' := by
  cases d1 <;> first
    | (cases hd; done)
    | (cases b with
       | none =>
         simp at hst; subst hst
         simp [Builtin.append_, run_underlying hu, run_underlying hu1, run_sizeOf hz, hn, hc, hw]
       | some a =>
         simp only at hst
         simp [Builtin.append_, run_underlying hu, run_underlying hu1, run_sizeOf hz, hn, hc, hw, hst])
end Go.Tm
