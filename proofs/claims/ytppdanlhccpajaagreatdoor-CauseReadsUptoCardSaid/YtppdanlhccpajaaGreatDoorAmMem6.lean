/- The built-in append: the model's run of it. -/
import Derived.Test.YtppdanlhccpajaaGreatDoorAmMem5
set_option linter.unusedSimpArgs false
set_option linter.unusedVariables false
set_option linter.unusedSectionVars false
namespace Go.AM

variable {P : Program} (w : World)

/-- What is appended where a made slice is. -/
structure SrcZ (P : Program) (i : TypeInfo) (z : Value) (tx : TypeId) (x : Value) (n : Nat) : Prop where
  kind : ∃ k, P.underlying tx = some (.int k)
  val : ∃ kk, x = .int kk (n : Int)
  small : n * i.bytes ≤ 140737488355328
  fits : (n : Int) ≤ 9223372036854775807

theorem run_append_room_row (t tx ty e : TypeId) (i : TypeInfo) (ht : P.underlying t = some (.slice e)) (hi : P.info? e = some i) (b off sLen sCap : Nat) (x : Value) (n : Nat) (news : List Value) (hs : Src P i.size tx x n news w)
    (hroom : sLen + n ≤ sCap) {cs : Array Value} {el : TypeId} (hg : w.heap[b]? = some (.cells cs el (0, 0))) (hfit : off + sLen * i.size + news.length ≤ cs.size) :
    (Builtin.append_ #[t, tx] ty #[.slice (some ⟨b, off, none⟩) sLen sCap, x]).run P w = .ok (.slice (some ⟨b, off, none⟩) (sLen + n) sCap)
      (w.setRow b (cs.toList.take (off + sLen * i.size) ++ news ++ cs.toList.drop (off + sLen * i.size + news.length)).toArray) := by
  have hst := run_storeCells_at (P := P) b (off + sLen * i.size) el news 0 cs w hg (by omega) hs.one
  simp only [Nat.add_zero] at hst
  rcases hs.kind with ⟨e', hk⟩ | hk <;> simp [Builtin.append_, run_underlying ht, run_underlying hk, sizeOf, typeInfo, hi, hs.len, hroom, hs.cells, Addr.add_lit, hst]

theorem zeroCells_size (zs : Array Value) (n : Nat) : (Builtin.zeroCells zs n).size = n * zs.size := by simp [Builtin.zeroCells]

theorem run_append_grow_zero (t tx ty e : TypeId) (i : TypeInfo) (z : Value) (ht : P.underlying t = some (.slice e)) (hi : P.info? e = some i) (hz : i.zero = some z) (hzs : z.cells.size = i.size)
    (base : Option Addr) (sLen sCap : Nat) (olds : List Value) (hold : (Builtin.firstCells i.size sLen (.slice base sLen sCap)).run P w.drew = .ok olds.toArray w.drew) (x : Value) (n : Nat) (hs : SrcZ P i z tx x n)
    (hg : sCap < sLen + n) (hn : 0 < n) (hpos : 0 < i.size) (h63 : ((sLen + n : Nat) : Int) ≤ 9223372036854775807) (hfit : Builtin.nextslicecap (sLen + n) sCap * i.bytes ≤ 281474976710656) :
    (Builtin.append_ #[t, tx] ty #[.slice base sLen sCap, x]).run P w =
      .ok (.slice (some ⟨w.heap.size, 0, none⟩) (sLen + n) (grownCap w (sLen + n) sCap e))
        (w.drew.alloc (.cells ((olds ++ (Builtin.zeroCells z.cells n).toList).toArray ++ Builtin.zeroCells z.cells (grownCap w (sLen + n) sCap e - (sLen + n))) e)) := by
  obtain ⟨k, hk⟩ := hs.kind
  obtain ⟨kk, rfl⟩ := hs.val
  have hw : IntKind.i64.wrap (n : Int) = n := wrap_i64 (by omega) hs.fits
  have h1 : ¬ ((n : Int) < 0) := by omega
  have h2 : ¬ (281474976710656 < (n : Int) * (i.bytes : Int)) := by
    have := hs.small
    have h := Int.ofNat_le.2 this
    rw [Int.natCast_mul] at h
    omega
  have h3 : ¬ (n * i.size = 0) := by intro h; rcases Nat.mul_eq_zero.1 h with h | h <;> omega
  have h4 : ¬ (n = 0 ∨ i.size = 0) := by omega
  have hn' : ¬ (sLen + n ≤ sCap) := by omega
  have h63' : ¬ (9223372036854775807 < ((sLen : Int) + (n : Int))) := by omega
  have h48' : ¬ (281474976710656 < Builtin.nextslicecap (sLen + n) sCap * i.bytes) := by omega
  have hint : ∀ w', (asInt (.int kk (n : Int))).run P w' = .ok (n : Int) w' := fun _ => rfl
  have hti : ∀ w', (typeInfo e).run P w' = .ok i w' := fun w' => run_typeInfo' hi w'
  have hsz : ∀ w', (sizeOf e).run P w' = .ok i.size w' := fun w' => run_sizeOf' hi w'
  have hzv : ∀ w', (zeroValue e).run P w' = .ok z w' := fun w' => run_zeroValue' hi hz w'
  have h2' : ¬ ((n : Int) * (i.bytes : Int) > 2 ^ 48) := by
    have e48 : (2 : Int) ^ 48 = 281474976710656 := by decide
    rw [e48]; omega
  have hmax : ¬ (((sLen + n : Nat) : Int) > IntKind.i64.max) := by
    have : IntKind.i64.max = 9223372036854775807 := by rfl
    rw [this]; omega
  have h48'' : ¬ (Builtin.nextslicecap (sLen + n) sCap * i.bytes > 2 ^ 48) := by
    have e48 : (2 : Nat) ^ 48 = 281474976710656 := by decide
    rw [e48]; omega
  have hq : (Question.appendCap (sLen + n) sCap e).forced = false := rfl
  unfold Builtin.append_
  simp only [List.getElem?_toArray, List.getElem?_cons_zero, List.getElem?_cons_succ, Sem.run_bind, run_underlying' ht, run_underlying' hk, Result.andThen_ok, hsz, Sem.run_pure, if_true, hint, hw, if_neg h1, hti, if_neg h2',
    Int.toNat_natCast, Sem.run_ite, if_neg hn', hmax, false_and, if_false, if_neg h48'', run_choose, hq, Bool.false_eq_true, run_askRoom, if_neg h3, hzv, Bool.not_true]
  rw [show ({ w with drawn := w.drawn + 1 } : World) = w.drew from rfl, hold]
  simp only [Result.andThen_ok, newRow, Sem.run_bind, run_newObj, Sem.run_pure, grownCap]
  rw [show olds.toArray ++ Builtin.zeroCells z.cells n = (olds ++ (Builtin.zeroCells z.cells n).toList).toArray from by apply Array.ext'; simp]
  rfl

theorem run_append_zero_nothing (t tx ty e : TypeId) (i : TypeInfo) (ht : P.underlying t = some (.slice e)) (hi : P.info? e = some i) (k kk : IntKind) (hk : P.underlying tx = some (.int k)) (base : Option Addr) (sLen sCap : Nat) (hle : sLen ≤ sCap) :
    (Builtin.append_ #[t, tx] ty #[.slice base sLen sCap, .int kk 0]).run P w = .ok (.slice base sLen sCap) w := by
  have hw : IntKind.i64.wrap 0 = 0 := by decide
  cases base <;> simp [Builtin.append_, run_underlying ht, run_underlying hk, sizeOf, typeInfo, hi, asInt, asIntOf, hw, hle, storeCells]

end Go.AM
