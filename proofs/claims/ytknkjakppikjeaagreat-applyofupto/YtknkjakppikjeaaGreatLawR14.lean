/- The law ApplyOf of tartanlaw17 holds, where what it reads is of bulk at most 1048576: the call returns true, and each argument reads as before. -/

import Derived.Test.YtknkjakppikjeaaGreatG4
set_option linter.unusedSimpArgs false
namespace Go.Proofs.YtknkjakppikjeaaGreat.applyOf
open Go.Tn Go.RowKit
set_option maxRecDepth 100000
def shs : List (Bool × List Sh) := [(true, [.slc [.str], .slc [.slc [.str]]]), (true, [.slc [.str], .slc [.slc [.str]]]), (false, [.slc [.int .i64, .int .i64]]), (false, [.slc [.int .i64, .int .i64]])]
theorem fc (es : List D) (h : FitA 1048576 shs es) : FC Tryz.prog 4 [] es (.ret (.bool true)) := by
  unfold shs at h
  simp only [FitA] at h
  obtain ⟨c0, _, rfl, ⟨h0, s0⟩, c1, _, rfl, ⟨h1, s1⟩, c2, _, rfl, ⟨h2, s2⟩, c3, _, rfl, ⟨h3, s3⟩, rfl⟩ := h
  obtain ⟨a, rfl⟩ := fits_Tab h0
  obtain ⟨b, rfl⟩ := fits_Tab h1
  simp only [FitsL] at h2 h3
  obtain ⟨_, _, rfl, h2, rfl⟩ := h2
  obtain ⟨l2, rfl⟩ := fits_sP h2
  obtain ⟨_, _, rfl, h3, rfl⟩ := h3
  obtain ⟨l3, rfl⟩ := fits_sP h3
  have n2 := szR_len (e := eP) (fun _ h => by cases h) l2
  have n3 := szR_len (e := eP) (fun _ h => by cases h) l3
  simp only [szL, szD] at s2 s3
  exact fc_AOf a b l2 l3 (tab_le s0) (tab_le s1) (by omega) (by omega)
theorem lifted (os : Os) (started : os.Started) (H : Type) (enc : TypeId × Value → H) (F : Stop.Interp) :
    ReturnsInHanded {} Tryz.checked os 4 .any ((Rows.OpenSpec.upto Rows.applyOfSpec).pre6 enc Tryz.prog Tryz.f4 Rows.applyOfUptoRow.domain false) (((Rows.OpenSpec.upto Rows.applyOfSpec).at F).post enc Tryz.prog Tryz.f4 false true false false) := by
  refine returnsInHanded_of_cond (C := Tryz.checked) (s := Rows.OpenSpec.upto Rows.applyOfSpec) (k := Rows.uptoSmall) rfl own started (by kernel_rfl) (by kernel_rfl)
    (OpenSpec.witness (enc := enc) (C := Tryz.checked) (s := Rows.OpenSpec.upto Rows.applyOfSpec) (k := Rows.uptoSmall) rfl false ⟨#[], #[.agg #[.slice none 0 0, .slice none 0 0], .agg #[.slice none 0 0, .slice none 0 0], .slice none 0 0, .slice none 0 0], []⟩ 8 (by kernel_rfl) (by kernel_rfl) (by kernel_rfl)
      (x := ([.agg [.nil, .nil], .agg [.nil, .nil], .nil, .nil], [], [])) (by kernel_rfl) rfl (by kernel_rfl)) ?_
  intro W base args ds gs before hval hW _ hk _
  exact law_contract (s := Rows.applyOfSpec) (n := 8) (tb := 4) (shs := shs) laidOut (by kernel_rfl) (by kernel_rfl) (by kernel_rfl) (by kernel_rfl) rfl (fun H ds h => by
    match ds, h with
    | [d0, d1, d2, d3], _ => rfl) (by decide) fc hval hW (small_le hk)
theorem proved : Rows.ApplyOfUptoSaid :=
  OpenClaim.holds_of_cond 4 Tryz.f4 rfl rfl rfl rfl rfl rfl rfl ⟨rfl, rfl, rfl, rfl, rfl⟩ rfl rfl rfl rfl rfl (by kernel_rfl) (by kernel_rfl) (by kernel_rfl)
    (of_decide_eq_true (by kernel_rfl)) (by unfold Func.isWrapper; first | (rw [if_pos (by decide +kernel)]; kernel_rfl) | (rw [if_neg (by decide +kernel)]; exact ⟨rfl, rfl⟩))
    (fun os started H enc _ F => lifted os started H enc F)
#print axioms proved
end Go.Proofs.YtknkjakppikjeaaGreat.applyOf
