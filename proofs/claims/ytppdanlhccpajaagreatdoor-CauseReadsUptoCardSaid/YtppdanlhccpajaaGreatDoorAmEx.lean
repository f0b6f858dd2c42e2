/- Expressions as arguments. -/
import Derived.Test.YtppdanlhccpajaaGreatDoorRows
import Derived.Test.YtppdanlhccpajaaGreatDoorAmRead
import Derived.KernelRfl
set_option linter.unusedSimpArgs false
set_option linter.unusedVariables false
set_option linter.unusedSectionVars false
namespace Go.AM
open Go.Proofs Go.Proofs.YtppdanlhccpajaaGreatDoor.Rows

inductive Ex where
  | mk (op : Int) (name : List Nat) (n : Int) (cf : SForm) (cons : List (List Nat)) (kf : SForm) (kids : List Ex)

mutual
def Ex.av : Ex → AV
  | .mk op name n cf cons kf kids => .agg [.int .i64 op, .str name, .int .i64 n, sl cf 1 (cons.map .str), sl kf 5 (Ex.avs kids)]
def Ex.avs : List Ex → List AV
  | [] => []
  | e :: es => e.av :: Ex.avs es
end
mutual
def Ex.size : Ex → Nat
  | .mk _ _ _ _ _ _ kids => 1 + Ex.sizes kids
def Ex.sizes : List Ex → Nat
  | [] => 0
  | e :: es => e.size + Ex.sizes es
end
theorem Ex.avs_eq : ∀ l : List Ex, Ex.avs l = l.map Ex.av
  | [] => by simp [Ex.avs]
  | e :: es => by simp [Ex.avs, Ex.avs_eq es]
theorem Ex.av_length (e : Ex) : e.av.cells.length = 5 := by cases e; simp [Ex.av, AV.cells]

theorem cells3 : Tryz.prog.cellsOf 3 = 1 := by kernel_rfl
theorem cells9 : Tryz.prog.cellsOf 9 = 1 := by kernel_rfl
theorem cells2 : Tryz.prog.cellsOf 2 = 1 := by kernel_rfl
theorem cells49 : Tryz.prog.cellsOf 49 = 1 := by kernel_rfl
theorem cells54 : Tryz.prog.cellsOf 54 = 1 := by kernel_rfl
theorem cells56 : Tryz.prog.cellsOf 56 = 5 := by kernel_rfl

theorem bulk_elems {H : Type} (d : DataW H) : uptoBulkAll (elemsOf d) + 1 ≤ uptoBulk d := by
  cases d with
  | lit l => cases l <;> simp [elemsOf, uptoBulkAll, uptoBulk]
  | slice es sp => simp only [elemsOf, uptoBulk]; omega
  | _ => simp [elemsOf, uptoBulkAll, uptoBulk]

section
variable {H : Type} {enc : TypeId × Value → H} {W : World}

theorem exs_of {Φ : AV → DataW H → Prop} (hΦ : ∀ v d, Φ v d → ∃ e : Ex, v = e.av ∧ e.size ≤ uptoBulk d) : ∀ (xs : List AV) (ds : List (DataW H)), xs.length = ds.length → (∀ (i : Nat) (v : AV) (b : DataW H), xs[i]? = some v → ds[i]? = some b → Φ v b) →
    ∃ es : List Ex, xs = Ex.avs es ∧ Ex.sizes es ≤ uptoBulkAll ds
  | [], ds, hl, _ => by
    cases ds with
    | nil => exact ⟨[], rfl, Nat.le_refl _⟩
    | cons => simp at hl
  | x :: xs, ds, hl, h => by
    cases ds with
    | nil => simp at hl
    | cons d ds =>
      obtain ⟨e, rfl, he⟩ := hΦ x d (h 0 x d rfl rfl)
      obtain ⟨es, rfl, hes⟩ := exs_of hΦ xs ds (by simpa using hl) fun i v b hv hb => h (i + 1) v b (by simpa using hv) (by simpa using hb)
      exact ⟨e :: es, by simp [Ex.avs], by simp only [Ex.sizes, uptoBulkAll]; omega⟩

theorem strs_of : ∀ (xs : List AV), (∀ (i : Nat) (v : AV), xs[i]? = some v → ∃ s : List Nat, v = .str s) → ∃ ss : List (List Nat), xs = ss.map .str
  | [], _ => ⟨[], rfl⟩
  | x :: xs, h => by
    obtain ⟨s, rfl⟩ := h 0 x rfl
    obtain ⟨ss, rfl⟩ := strs_of xs fun i v hv => h (i + 1) v (by simpa using hv)
    exact ⟨s :: ss, rfl⟩

theorem read_strs {fuel : Nat} {c : Value} {d : DataW H} {ps : List MemPlace} (h : DataW.trod enc Tryz.prog W 0 (fun _ => true) true fuel 49 [c] = some (d, ps)) :
    ∃ (f : SForm) (ss : List (List Nat)), VR NoE (pins W) (sl f 1 (ss.map .str)) c := by
  cases fuel with
  | zero => simp [DataW.trod] at h
  | succ fuel =>
    obtain ⟨x, f, xs, hx, hv, hl, hall⟩ := read_slice (Φ := fun v _ => ∃ s : List Nat, v = .str s) Tryz.underlying49 cells9 (by decide) (fun cs d ps h _ => by
      obtain ⟨s, rfl, rfl, _⟩ := read_str Tryz.underlying9 h
      exact ⟨.str (s.data.toList.map UInt8.toNat), ⟨_, rfl⟩, rfl, VRL.cons (.str s) VRL.nil⟩) h
    cases hx
    obtain ⟨ss, rfl⟩ := strs_of xs fun i v hv => by
      have hi : i < (elemsOf d).length := by rw [← hl]; exact (List.getElem?_eq_some_iff.1 hv).1
      exact hall i v _ hv (List.getElem?_eq_getElem hi)
    exact ⟨f, ss, hv⟩

theorem list_five {α : Type} (l : List α) (h : l.length = 5) : ∃ a b c d e, l = [a, b, c, d, e] := by
  match l, h with
  | [a, b, c, d, e], _ => exact ⟨a, b, c, d, e, rfl⟩

theorem read_ex : ∀ (fuel : Nat) (cs : List Value) (d : DataW H) (ps : List MemPlace), DataW.trod enc Tryz.prog W 0 (fun _ => true) true fuel 56 cs = some (d, ps) →
    ∃ e : Ex, e.size ≤ uptoBulk d ∧ VRL NoE (pins W) e.av.cells cs := by
  intro fuel
  induction fuel using Nat.strongRecOn with
  | _ fuel ih =>
    intro cs d ps h
    cases fuel with
    | zero => simp [DataW.trod] at h
    | succ fuel =>
      obtain ⟨hlen, xs, hm, rfl⟩ := read_struct Tryz.underlying56 h
      rw [cells56] at hlen
      clear h
      obtain ⟨c0, c1, c2, c3, c4, rfl⟩ := list_five cs hlen
      simp only [List.mapM_cons, List.mapM_nil, cells3, cells9, cells2, cells49, cells54, List.drop_zero, List.drop_succ_cons, List.take_succ_cons, List.take_zero, Option.bind_eq_bind, Option.pure_def,
        Option.bind_eq_some_iff, Option.some.injEq] at hm
      obtain ⟨x0, h0, l1, ⟨x1, h1, l2, ⟨x2, h2, l3, ⟨x3, h3, l4, ⟨x4, h4, l5, rfl, rfl⟩, rfl⟩, rfl⟩, rfl⟩, rfl⟩ := hm
      obtain ⟨op, e0, _, _⟩ := read_int Tryz.underlying3 h0
      obtain ⟨s, e1, _, _⟩ := read_str Tryz.underlying9 h1
      obtain ⟨n, e2, _, _⟩ := read_int Tryz.underlying2 h2
      cases e0; cases e1; cases e2
      obtain ⟨cf, ss, hcons⟩ := read_strs h3
      obtain ⟨kf, es, hkids, hsz⟩ : ∃ (f : SForm) (es : List Ex), VR NoE (pins W) (sl f 5 (Ex.avs es)) c4 ∧ Ex.sizes es + 1 ≤ uptoBulk x4.1 := by
        cases fuel with
        | zero => simp [DataW.trod] at h4
        | succ fuel =>
          obtain ⟨x, f, xs, hx, hv, hl, hall⟩ := read_slice (Φ := fun v d => ∃ e : Ex, v = e.av ∧ e.size ≤ uptoBulk d) Tryz.underlying54 cells56 (by decide) (fun cs d ps h _ => by
            obtain ⟨e, h1, h2⟩ := ih fuel (by omega) cs d ps h
            exact ⟨e.av, ⟨e, rfl, h1⟩, e.av_length, h2⟩) h4
          cases hx
          obtain ⟨es, rfl, hes⟩ := exs_of (fun _ _ h => h) xs (elemsOf x4.1) hl hall
          have := bulk_elems x4.1
          exact ⟨f, es, hv, by omega⟩
      refine ⟨.mk op (s.data.toList.map UInt8.toNat) n cf ss kf es, ?_, ?_⟩
      · simp only [Ex.size, uptoBulk, List.map_cons, List.map_nil, uptoBulkAll]
        omega
      · simp only [Ex.av, AV.cells]
        exact VRL.cons (.int _ _) (VRL.cons (.str s) (VRL.cons (.int _ _) (VRL.cons hcons (VRL.cons hkids VRL.nil))))

end
end Go.AM
