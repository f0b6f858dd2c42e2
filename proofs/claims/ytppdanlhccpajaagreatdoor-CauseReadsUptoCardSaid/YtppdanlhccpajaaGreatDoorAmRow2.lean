/- CauseReads: the row and its card. -/
import Derived.Test.YtppdanlhccpajaaGreatDoorAmRow1
set_option linter.unusedSimpArgs false
set_option linter.unusedVariables false
set_option linter.unusedSectionVars false
namespace Go.Proofs.YtppdanlhccpajaaGreatDoor.causeReads
open Go.ChangeShapes Go.WideShapes Go.ChangeAt Go.RowKit

/-- The cells of a table that is laid. -/
def litCells : DataW Unit → Array Value
  | .agg ps => (ps.map fun d => match d with | .lit (.int k n) => Value.int k n | _ => .int .i64 0).toArray
  | _ => #[]
def litText : DataW Unit → ByteArray
  | .iface _ (.ptr (.agg [.lit (.string b)])) => ⟨b.toArray⟩
  | _ => ⟨#[]⟩
noncomputable def low : Nat := (World.holding Tryz.prog default ⟨#[], #[], []⟩).heap.size
noncomputable def laidWorld (os : Os) : World :=
  let w0 := World.holding Tryz.prog os ⟨#[.cells #[.string (litText Rows.laid_strconv_ErrSyntax)] 334, .cells #[.string (litText Rows.laid_strconv_ErrRange)] 334], #[], []⟩
  let put (h : Array Obj) (g : Nat) (cs : Array Value) : Array Obj := h.modify g fun
    | .cells _ t frozen => .cells cs t frozen
    | o => o
  let h0 := put w0.heap 0 #[.iface 332 (.pointer (some ⟨low, 0, none⟩))]
  let h1 := put h0 1 #[.iface 332 (.pointer (some ⟨low + 1, 0, none⟩))]
  let h2 := put h1 2 (litCells Rows.laid_internal_strconv_uint64pow10)
  let h3 := put h2 3 (litCells Rows.laid_math_bits_deBruijn32tab)
  let h4 := put h3 4 (litCells Rows.laid_math_bits_deBruijn64tab)
  { w0 with heap := h4 }
abbrev arg0 : Value := .agg #[.int .i64 0, .string ⟨#[]⟩, .int .i64 0, .slice none 0 0, .slice none 0 0]
theorem laid_met (os : Os) : laidMet Tryz.prog Rows.causeReadsUptoRow.laid ((laidWorld os).forCall (fun _ _ => 0) ⟨#[], #[arg0], []⟩).memory :=
  laidMet_of_run' 8 (by kernel_rfl) (by kernel_rfl)
theorem reads (os : Os) {H : Type} (enc : TypeId × Value → H) : ∃ places, DataW.whole enc Tryz.prog ((laidWorld os).forCall (fun _ _ => 0) ⟨#[], #[arg0], []⟩).memory Tryz.f7.params.toList Rows.causeReadsSpec.vars false #[arg0].toList 8 =
    some ([.agg [.lit (.int .i64 0), .lit (.string []), .lit (.int .i64 0), .nil, .nil]], [], places) :=
  ⟨[], by kernel_rfl⟩

set_option maxRecDepth 100000 in
theorem liftedUpto (os : Os) (started : os.Started) (H : Type) (enc : TypeId × Value → H) (F : Stop.Interp) :
    ReturnsInHanded {} Tryz.checked os 7 .any ((Rows.OpenSpec.upto Rows.causeReadsSpec).preRow enc Tryz.prog Tryz.f7 Rows.causeReadsUptoRow.domain false Rows.causeReadsUptoRow.laid) (((Rows.OpenSpec.upto Rows.causeReadsSpec).at F).post enc Tryz.prog Tryz.f7 false true false false) := by
  obtain ⟨places, hx⟩ := reads os enc
  refine returnsInHanded_of_row (C := Tryz.checked) (s := Rows.OpenSpec.upto Rows.causeReadsSpec) own started (by kernel_rfl) Tryz.func7
    (witness_row_at (enc := enc) (C := Tryz.checked) false (laidWorld os) #[arg0] rfl (by kernel_rfl) (by kernel_rfl) (by kernel_rfl)
      (OpenSpec.preRow_of_cond 8 hx (by kernel_rfl) (fun k hk => by cases hk; kernel_rfl) (by kernel_rfl) (laid_met os))) ?_
  intro W base args ds gs before hval hW _ hcond _ _ _ _
  exact contract H enc W base args ds gs before hval hW (hcond _ rfl)

end Go.Proofs.YtppdanlhccpajaaGreatDoor.causeReads
