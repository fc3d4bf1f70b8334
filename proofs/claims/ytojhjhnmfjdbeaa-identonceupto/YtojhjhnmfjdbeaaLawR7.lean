/- The law IdentOnce of tartanlaw22 holds, where what it reads is of bulk at most 1048576: the call returns true, and each argument reads as before. -/

import Derived.Test.YtojhjhnmfjdbeaaG0
set_option linter.unusedSimpArgs false
namespace Go.Proofs.Ytojhjhnmfjdbeaa.identOnce
open Go.Tn Go.RowKit
set_option maxRecDepth 100000
def shs : List (Bool × List Sh) := [(true, [.slc [.int .i64, .int .i64], .slc [.int .i64, .int .i64], .slc [.int .i64, .int .i64], .int .i64, .int .i64, .int .i64])]
theorem fc (es : List D) (h : FitA 1048576 shs es) : FC Try.prog 6 [] es (.ret (.bool true)) := by
  unfold shs at h
  simp only [FitA] at h
  obtain ⟨cs, _, rfl, ⟨hc, _⟩, rfl⟩ := h
  simp only [FitsL] at hc
  obtain ⟨_, _, rfl, h0, _, _, rfl, h1, _, _, rfl, h2, _, _, rfl, h3, _, _, rfl, h4, _, _, rfl, h5, rfl⟩ := hc
  obtain ⟨p0, rfl⟩ := fits_sP h0
  obtain ⟨p1, rfl⟩ := fits_sP h1
  obtain ⟨p2, rfl⟩ := fits_sP h2
  obtain ⟨n0, rfl⟩ := fits_i h3
  obtain ⟨n1, rfl⟩ := fits_i h4
  obtain ⟨n2, rfl⟩ := fits_i h5
  exact fc_IdentOnce p0 p1 p2 n0 n1 n2
theorem lifted (os : Os) (started : os.Started) (H : Type) (enc : TypeId × Value → H) (F : Stop.Interp) :
    ReturnsInHanded {} Try.checked os 6 .any ((Rows.OpenSpec.upto Rows.identOnceSpec).pre6 enc Try.prog Try.f6 Rows.identOnceUptoRow.domain false) (((Rows.OpenSpec.upto Rows.identOnceSpec).at F).post enc Try.prog Try.f6 false true false false) := by
  refine returnsInHanded_of_cond (C := Try.checked) (s := Rows.OpenSpec.upto Rows.identOnceSpec) (k := Rows.uptoSmall) rfl own started (by kernel_rfl) (by kernel_rfl)
    (OpenSpec.witness (enc := enc) (C := Try.checked) (s := Rows.OpenSpec.upto Rows.identOnceSpec) (k := Rows.uptoSmall) rfl false ⟨#[], #[.agg #[.slice none 0 0, .slice none 0 0, .slice none 0 0, .int .i64 0, .int .i64 0, .int .i64 0]], []⟩ 8 (by kernel_rfl) (by kernel_rfl) (by kernel_rfl)
      (x := ([.agg [.nil, .nil, .nil, .lit (.int .i64 0), .lit (.int .i64 0), .lit (.int .i64 0)]], [], [])) (by kernel_rfl) rfl (by kernel_rfl)) ?_
  intro W base args ds gs before hval hW _ hk _
  exact law_contract (s := Rows.identOnceSpec) (n := 8) (tb := 4) (shs := shs) laidOut (by kernel_rfl) (by kernel_rfl) (by kernel_rfl) (by kernel_rfl) rfl (fun H ds h => by
    match ds, h with
    | [d0], _ => rfl) (by decide) fc hval hW (small_le hk)
theorem proved : Rows.IdentOnceUptoSaid :=
  OpenClaim.holds_of_cond 6 Try.f6 rfl rfl rfl rfl rfl rfl rfl ⟨rfl, rfl, rfl, rfl, rfl⟩ rfl rfl rfl rfl rfl (by kernel_rfl) (by kernel_rfl) (by kernel_rfl)
    (of_decide_eq_true (by kernel_rfl)) (by unfold Func.isWrapper; first | (rw [if_pos (by decide +kernel)]; kernel_rfl) | (rw [if_neg (by decide +kernel)]; exact ⟨rfl, rfl⟩))
    (fun os started H enc _ F => lifted os started H enc F)
#print axioms proved
end Go.Proofs.Ytojhjhnmfjdbeaa.identOnce
