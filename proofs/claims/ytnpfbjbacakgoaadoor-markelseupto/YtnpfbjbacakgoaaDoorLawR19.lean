/- The law MarkElse of tartanlaw24 holds, where what it reads is of bulk at most 1048576: the call returns true, and each argument reads as before; the library's variables that it reads are laid as the program's text lays them. -/

import Derived.Test.YtnpfbjbacakgoaaDoorG2
set_option linter.unusedSimpArgs false
namespace Go.Proofs.YtnpfbjbacakgoaaDoor.markElse
open Go.Tn Go.RowKit
set_option maxRecDepth 100000
def shs : List (Bool × List Sh) := [(true, [.slc [.str], .slc [.slc [.str]]]), (false, [.slc [.int .i64, .int .i64, .str, .str, .str, .str]]), (false, [.int .i64]), (false, [.int .i64])]
theorem fc (es : List D) (h : FitA 1048576 shs es) : FC Tryd.prog 7 [] es (.ret (.bool true)) := by
  unfold shs at h
  simp only [FitA] at h
  obtain ⟨c0, _, rfl, ⟨h0, s0⟩, c1, _, rfl, ⟨h1, s1⟩, c2, _, rfl, ⟨h2, _⟩, c3, _, rfl, ⟨h3, _⟩, rfl⟩ := h
  obtain ⟨t, rfl⟩ := fits_Tab h0
  simp only [FitsL] at h1
  obtain ⟨_, _, rfl, h1, rfl⟩ := h1
  obtain ⟨l, rfl, hr⟩ := fits_sC h1
  simp only [FitsL] at h2
  obtain ⟨_, _, rfl, h2, rfl⟩ := h2
  obtain ⟨n2, rfl⟩ := fits_i h2
  simp only [FitsL] at h3
  obtain ⟨_, _, rfl, h3, rfl⟩ := h3
  obtain ⟨n3, rfl⟩ := fits_i h3
  exact fc_MElse t l n2 n3 (smT_of s0) (smC_of hr s1)
theorem reads (os : Os) {H : Type} (enc : TypeId × Value → H) : ∃ places, DataW.whole enc Tryd.prog ((wL os).forCall (fun _ _ => 0) ⟨#[], #[.agg #[.slice none 0 0, .slice none 0 0], .slice none 0 0, .int .i64 0, .int .i64 0], []⟩).memory Tryd.f7.params.toList Rows.markElseSpec.vars false #[.agg #[.slice none 0 0, .slice none 0 0], .slice none 0 0, .int .i64 0, .int .i64 0].toList 8 = some ([.agg [.nil, .nil], .nil, .lit (.int .i64 0), .lit (.int .i64 0)], [], places) :=
  ⟨[], by kernel_rfl⟩
theorem lifted (os : Os) (started : os.Started) (H : Type) (enc : TypeId × Value → H) (F : Stop.Interp) :
    ReturnsInHanded {} Tryd.checked os 7 .any ((Rows.OpenSpec.upto Rows.markElseSpec).preRow enc Tryd.prog Tryd.f7 Rows.markElseUptoRow.domain false Rows.markElseUptoRow.laid) (((Rows.OpenSpec.upto Rows.markElseSpec).at F).post enc Tryd.prog Tryd.f7 false true false false) := by
  obtain ⟨places, hx⟩ := reads os enc
  refine returnsInHanded_of_row (C := Tryd.checked) (s := Rows.OpenSpec.upto Rows.markElseSpec) own started (by kernel_rfl) (by kernel_rfl)
    (witness_row_atRef (enc := enc) (C := Tryd.checked) false (wL os) #[.agg #[.slice none 0 0, .slice none 0 0], .slice none 0 0, .int .i64 0, .int .i64 0] (World.laidAll_os _ _ _) (by kernel_rfl) (by kernel_rfl) (by kernel_rfl)
      (OpenSpec.preRow_of_cond 8 hx (by kernel_rfl) (fun k hk => by cases hk; kernel_rfl) (by kernel_rfl) (met os _))) ?_
  intro W base args ds gs before hval hW _ hk _ hL _ _
  exact law_contract (s := Rows.markElseSpec) (n := 8) (tb := 4) (shs := shs) laidOut (by kernel_rfl) (by kernel_rfl) (by kernel_rfl) (by kernel_rfl) rfl (fun H ds h => by
    match ds, h with
    | [d0, d1, d2, d3], _ => rfl) (by decide) fc (laid_of hL) hval hW (small_le (hk _ rfl))
theorem said : Rows.MarkElseUptoSaid :=
  OpenClaim.holds_of_cond 7 Tryd.f7 rfl rfl rfl rfl rfl rfl rfl ⟨rfl, rfl, rfl, rfl, rfl⟩ rfl rfl rfl rfl rfl (by kernel_rfl) (by kernel_rfl) (by kernel_rfl)
    (of_decide_eq_true (by kernel_rfl)) (by unfold Func.isWrapper; first | (rw [if_pos (by decide +kernel)]; kernel_rfl) | (rw [if_neg (by decide +kernel)]; exact ⟨rfl, rfl⟩))
    (fun os started H enc _ F => by rw [OpenClaim.pre_eq_preRow]; exact lifted os started H enc F)
theorem plain (f : FuncId) (fn : Func) (hf : Tryd.pinned.checked.prog.funcNamed "tartan/tartanlaw24.MarkElse" = some f) (hfn : Tryd.pinned.checked.prog.funcs[f]? = some fn) :
    true = Tryd.pinned.checked.prog.looks [] ∧ ∀ (j : Nat) t, fn.params[j]? = some t → Tryd.pinned.checked.prog.wantsStandIn t = false := by
  obtain rfl : f = 7 := (Option.some.inj ((show Tryd.pinned.checked.prog.funcNamed "tartan/tartanlaw24.MarkElse" = some 7 by kernel_rfl).symm.trans hf)).symm
  obtain rfl : fn = Tryd.f7 := (Option.some.inj ((show Tryd.pinned.checked.prog.funcs[7]? = some Tryd.f7 by kernel_rfl).symm.trans hfn)).symm
  exact ⟨by kernel_rfl, plain_of (by kernel_rfl)⟩
theorem proved : Rows.MarkElseUptoCardSaid :=
  Claim7.holds_tied_plain_at .later [] _ _ _ _ said (fun _ h => by cases h) (by kernel_rfl) (fun _ h => by cases h) markElseUpto_row_tie rfl ⟨rfl, rfl⟩ (by kernel_rfl) (by kernel_rfl) plain (by kernel_rfl)
#print axioms proved
end Go.Proofs.YtnpfbjbacakgoaaDoor.markElse
