/- The law IdentSeqs of tartanlaw22 holds, where what it reads is of bulk at most 1048576: the call returns true, and each argument reads as before. -/

import Derived.Test.YtojhjhnmfjdbeaaG0
set_option linter.unusedSimpArgs false
namespace Go.Proofs.Ytojhjhnmfjdbeaa.identSeqs
open Go.Tn Go.RowKit
set_option maxRecDepth 100000
def shs : List (Bool × List Sh) := [(false, [.slc [.int .i64, .int .i64, .int .i64]]), (false, [.int .i64])]
theorem fc (es : List D) (h : FitA 1048576 shs es) : FC Try.prog 4 [] es (.ret (.bool true)) := by
  unfold shs at h
  simp only [FitA] at h
  obtain ⟨c0, _, rfl, ⟨h0, _⟩, c1, _, rfl, ⟨h1, _⟩, rfl⟩ := h
  simp only [FitsL] at h0 h1
  obtain ⟨_, _, rfl, h0, rfl⟩ := h0
  obtain ⟨_, _, rfl, h1, rfl⟩ := h1
  obtain ⟨L, rfl⟩ := fits_sT h0
  obtain ⟨k, rfl⟩ := fits_i h1
  exact fc_IdentSeqs L k
theorem lifted (os : Os) (started : os.Started) (H : Type) (enc : TypeId × Value → H) (F : Stop.Interp) :
    ReturnsInHanded {} Try.checked os 4 .any ((Rows.OpenSpec.upto Rows.identSeqsSpec).pre6 enc Try.prog Try.f4 Rows.identSeqsUptoRow.domain false) (((Rows.OpenSpec.upto Rows.identSeqsSpec).at F).post enc Try.prog Try.f4 false true false false) := by
  refine returnsInHanded_of_cond (C := Try.checked) (s := Rows.OpenSpec.upto Rows.identSeqsSpec) (k := Rows.uptoSmall) rfl own started (by kernel_rfl) (by kernel_rfl)
    (OpenSpec.witness (enc := enc) (C := Try.checked) (s := Rows.OpenSpec.upto Rows.identSeqsSpec) (k := Rows.uptoSmall) rfl false ⟨#[], #[.slice none 0 0, .int .i64 0], []⟩ 8 (by kernel_rfl) (by kernel_rfl) (by kernel_rfl)
      (x := ([.nil, .lit (.int .i64 0)], [], [])) (by kernel_rfl) rfl (by kernel_rfl)) ?_
  intro W base args ds gs before hval hW _ hk _
  exact law_contract (s := Rows.identSeqsSpec) (n := 8) (tb := 4) (shs := shs) laidOut (by kernel_rfl) (by kernel_rfl) (by kernel_rfl) (by kernel_rfl) rfl (fun H ds h => by
    match ds, h with
    | [d0, d1], _ => rfl) (by decide) fc hval hW (small_le hk)
theorem proved : Rows.IdentSeqsUptoSaid :=
  OpenClaim.holds_of_cond 4 Try.f4 rfl rfl rfl rfl rfl rfl rfl ⟨rfl, rfl, rfl, rfl, rfl⟩ rfl rfl rfl rfl rfl (by kernel_rfl) (by kernel_rfl) (by kernel_rfl)
    (of_decide_eq_true (by kernel_rfl)) (by unfold Func.isWrapper; first | (rw [if_pos (by decide +kernel)]; kernel_rfl) | (rw [if_neg (by decide +kernel)]; exact ⟨rfl, rfl⟩))
    (fun os started H enc _ F => lifted os started H enc F)
#print axioms proved
end Go.Proofs.Ytojhjhnmfjdbeaa.identSeqs
