/- The law ApplyTells of tartanlaw17 holds, where what it reads is of bulk at most 1048576: the call returns true, and each argument reads as before. -/

import Derived.Test.YtknkjakppikjeaaGreatG5
set_option linter.unusedSimpArgs false
namespace Go.Proofs.YtknkjakppikjeaaGreat.applyTells
open Go.Tn Go.RowKit
set_option maxRecDepth 100000
def shs : List (Bool × List Sh) := [(true, [.slc [.str], .slc [.slc [.str]]]), (true, delta_shs)]
theorem fc (es : List D) (h : FitA 1048576 shs es) : FC Tryz.prog 3 [] es (.ret (.bool true)) := by
  unfold shs at h
  simp only [FitA] at h
  obtain ⟨c0, _, rfl, ⟨h0, s0⟩, c1, _, rfl, ⟨h1, s1⟩, rfl⟩ := h
  obtain ⟨t, rfl⟩ := fits_Tab h0
  obtain ⟨d, rfl⟩ := open_delta h1
  exact fc_ATells t d (tab_le s0) (okT_of s1)
theorem lifted (os : Os) (started : os.Started) (H : Type) (enc : TypeId × Value → H) (F : Stop.Interp) :
    ReturnsInHanded {} Tryz.checked os 3 .any ((Rows.OpenSpec.upto Rows.applyTellsSpec).pre6 enc Tryz.prog Tryz.f3 Rows.applyTellsUptoRow.domain false) (((Rows.OpenSpec.upto Rows.applyTellsSpec).at F).post enc Tryz.prog Tryz.f3 false true false false) := by
  refine returnsInHanded_of_cond (C := Tryz.checked) (s := Rows.OpenSpec.upto Rows.applyTellsSpec) (k := Rows.uptoSmall) rfl own started (by kernel_rfl) (by kernel_rfl)
    (OpenSpec.witness (enc := enc) (C := Tryz.checked) (s := Rows.OpenSpec.upto Rows.applyTellsSpec) (k := Rows.uptoSmall) rfl false ⟨#[], #[.agg #[.slice none 0 0, .slice none 0 0], .agg #[.slice none 0 0, .slice none 0 0, .slice none 0 0, .int .i64 0, .int .i64 0, .slice none 0 0, .slice none 0 0, .slice none 0 0, .slice none 0 0, .slice none 0 0, .slice none 0 0]], []⟩ 8 (by kernel_rfl) (by kernel_rfl) (by kernel_rfl)
      (x := ([.agg [.nil, .nil], .agg [.nil, .nil, .nil, .lit (.int .i64 0), .lit (.int .i64 0), .nil, .nil, .nil, .nil, .nil, .nil]], [], [])) (by kernel_rfl) rfl (by kernel_rfl)) ?_
  intro W base args ds gs before hval hW _ hk _
  exact law_contract (s := Rows.applyTellsSpec) (n := 8) (tb := 4) (shs := shs) laidOut (by kernel_rfl) (by kernel_rfl) (by kernel_rfl) (by kernel_rfl) rfl (fun H ds h => by
    match ds, h with
    | [d0, d1], _ => rfl) (by decide) fc hval hW (small_le hk)
theorem proved : Rows.ApplyTellsUptoSaid :=
  OpenClaim.holds_of_cond 3 Tryz.f3 rfl rfl rfl rfl rfl rfl rfl ⟨rfl, rfl, rfl, rfl, rfl⟩ rfl rfl rfl rfl rfl (by kernel_rfl) (by kernel_rfl) (by kernel_rfl)
    (of_decide_eq_true (by kernel_rfl)) (by unfold Func.isWrapper; first | (rw [if_pos (by decide +kernel)]; kernel_rfl) | (rw [if_neg (by decide +kernel)]; exact ⟨rfl, rfl⟩))
    (fun os started H enc _ F => lifted os started H enc F)
#print axioms proved
end Go.Proofs.YtknkjakppikjeaaGreat.applyTells
