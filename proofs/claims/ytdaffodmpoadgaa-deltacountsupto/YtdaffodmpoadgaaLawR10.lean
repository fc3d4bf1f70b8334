/- The law DeltaCounts of tartanlaw15 holds, where what it reads is of bulk at most 1048576: the call returns true, and each argument reads as before. -/

import Derived.Test.YtdaffodmpoadgaaG3
set_option linter.unusedSimpArgs false
namespace Go.Proofs.Ytdaffodmpoadgaa.deltaCounts
open Go.Tn Go.RowKit
set_option maxRecDepth 100000
def shs : List (Bool × List Sh) := [(true, delta_shs)]
theorem fc (es : List D) (h : FitA 1048576 shs es) : FC Try.prog 5 [] es (.ret (.bool true)) := by
  unfold shs at h
  simp only [FitA] at h
  obtain ⟨cs, _, rfl, ⟨hc, hz⟩, rfl⟩ := h
  obtain ⟨d, rfl⟩ := open_delta hc
  exact fc_Counts d (okT_of hz)
theorem lifted (os : Os) (started : os.Started) (H : Type) (enc : TypeId × Value → H) (F : Stop.Interp) :
    ReturnsInHanded {} Try.checked os 5 .any ((Rows.OpenSpec.upto Rows.deltaCountsSpec).pre6 enc Try.prog Try.f5 Rows.deltaCountsUptoRow.domain false) (((Rows.OpenSpec.upto Rows.deltaCountsSpec).at F).post enc Try.prog Try.f5 false true false false) := by
  refine returnsInHanded_of_cond (C := Try.checked) (s := Rows.OpenSpec.upto Rows.deltaCountsSpec) (k := Rows.uptoSmall) rfl own started (by kernel_rfl) (by kernel_rfl)
    (OpenSpec.witness (enc := enc) (C := Try.checked) (s := Rows.OpenSpec.upto Rows.deltaCountsSpec) (k := Rows.uptoSmall) rfl false ⟨#[], #[.agg #[.slice none 0 0, .slice none 0 0, .slice none 0 0, .int .i64 0, .int .i64 0, .slice none 0 0, .slice none 0 0, .slice none 0 0, .slice none 0 0, .slice none 0 0, .slice none 0 0]], []⟩ 8 (by kernel_rfl) (by kernel_rfl) (by kernel_rfl)
      (x := ([.agg [.nil, .nil, .nil, .lit (.int .i64 0), .lit (.int .i64 0), .nil, .nil, .nil, .nil, .nil, .nil]], [], [])) (by kernel_rfl) rfl (by kernel_rfl)) ?_
  intro W base args ds gs before hval hW _ hk _
  exact law_contract (s := Rows.deltaCountsSpec) (n := 8) (tb := 4) (shs := shs) laidOut (by kernel_rfl) (by kernel_rfl) (by kernel_rfl) (by kernel_rfl) rfl (fun H ds h => by
    match ds, h with
    | [d0], _ => rfl) (by decide) fc hval hW (small_le hk)
theorem proved : Rows.DeltaCountsUptoSaid :=
  OpenClaim.holds_of_cond 5 Try.f5 rfl rfl rfl rfl rfl rfl rfl ⟨rfl, rfl, rfl, rfl, rfl⟩ rfl rfl rfl rfl rfl (by kernel_rfl) (by kernel_rfl) (by kernel_rfl)
    (of_decide_eq_true (by kernel_rfl)) (by unfold Func.isWrapper; first | (rw [if_pos (by decide +kernel)]; kernel_rfl) | (rw [if_neg (by decide +kernel)]; exact ⟨rfl, rfl⟩))
    (fun os started H enc _ F => lifted os started H enc F)
#print axioms proved
end Go.Proofs.Ytdaffodmpoadgaa.deltaCounts
