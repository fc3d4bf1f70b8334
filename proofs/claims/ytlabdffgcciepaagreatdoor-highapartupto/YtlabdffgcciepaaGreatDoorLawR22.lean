/- The law HighApart of tartanlaw19 holds, where what it reads is of bulk at most 1048576: the call returns true, and each argument reads as before; the library's variables that it reads are laid as the program's text lays them. -/

import Derived.Test.YtlabdffgcciepaaGreatDoorG6
set_option linter.unusedSimpArgs false
namespace Go.Proofs.YtlabdffgcciepaaGreatDoor.highApart
open Go.Tn Go.RowKit
set_option maxRecDepth 100000
def shs : List (Bool × List Sh) := [(true, delta_shs), (true, delta_shs)]
theorem fc (es : List D) (h : FitA 1048576 shs es) : FC Tryz.prog 5 [] es (.ret (.bool true)) := by
  unfold shs at h
  simp only [FitA] at h
  obtain ⟨c0, _, rfl, ⟨h0, s0⟩, c1, _, rfl, ⟨h1, s1⟩, rfl⟩ := h
  obtain ⟨d0, rfl⟩ := open_delta h0
  obtain ⟨d1, rfl⟩ := open_delta h1
  exact fc_Apart d0 d1 (okT_of s0) (okT_of s1)
theorem reads (os : Os) {H : Type} (enc : TypeId × Value → H) : ∃ places, DataW.whole enc Tryz.prog ((wL os).forCall (fun _ _ => 0) ⟨#[], #[.agg #[.slice none 0 0, .slice none 0 0, .slice none 0 0, .int .i64 0, .int .i64 0, .slice none 0 0, .slice none 0 0, .slice none 0 0, .slice none 0 0, .slice none 0 0, .slice none 0 0], .agg #[.slice none 0 0, .slice none 0 0, .slice none 0 0, .int .i64 0, .int .i64 0, .slice none 0 0, .slice none 0 0, .slice none 0 0, .slice none 0 0, .slice none 0 0, .slice none 0 0]], []⟩).memory Tryz.f5.params.toList Rows.highApartSpec.vars false #[.agg #[.slice none 0 0, .slice none 0 0, .slice none 0 0, .int .i64 0, .int .i64 0, .slice none 0 0, .slice none 0 0, .slice none 0 0, .slice none 0 0, .slice none 0 0, .slice none 0 0], .agg #[.slice none 0 0, .slice none 0 0, .slice none 0 0, .int .i64 0, .int .i64 0, .slice none 0 0, .slice none 0 0, .slice none 0 0, .slice none 0 0, .slice none 0 0, .slice none 0 0]].toList 8 = some ([.agg [.nil, .nil, .nil, .lit (.int .i64 0), .lit (.int .i64 0), .nil, .nil, .nil, .nil, .nil, .nil], .agg [.nil, .nil, .nil, .lit (.int .i64 0), .lit (.int .i64 0), .nil, .nil, .nil, .nil, .nil, .nil]], [], places) :=
  ⟨[], by kernel_rfl⟩
theorem lifted (os : Os) (started : os.Started) (H : Type) (enc : TypeId × Value → H) (F : Stop.Interp) :
    ReturnsInHanded {} Tryz.checked os 5 .any ((Rows.OpenSpec.upto Rows.highApartSpec).preRow enc Tryz.prog Tryz.f5 Rows.highApartUptoRow.domain false Rows.highApartUptoRow.laid) (((Rows.OpenSpec.upto Rows.highApartSpec).at F).post enc Tryz.prog Tryz.f5 false true false false) := by
  obtain ⟨places, hx⟩ := reads os enc
  refine returnsInHanded_of_row (C := Tryz.checked) (s := Rows.OpenSpec.upto Rows.highApartSpec) own started (by kernel_rfl) (by kernel_rfl)
    (witness_row_atRef (enc := enc) (C := Tryz.checked) false (wL os) #[.agg #[.slice none 0 0, .slice none 0 0, .slice none 0 0, .int .i64 0, .int .i64 0, .slice none 0 0, .slice none 0 0, .slice none 0 0, .slice none 0 0, .slice none 0 0, .slice none 0 0], .agg #[.slice none 0 0, .slice none 0 0, .slice none 0 0, .int .i64 0, .int .i64 0, .slice none 0 0, .slice none 0 0, .slice none 0 0, .slice none 0 0, .slice none 0 0, .slice none 0 0]] (World.laidAll_os _ _ _) (by kernel_rfl) (by kernel_rfl) (by kernel_rfl)
      (OpenSpec.preRow_of_cond 8 hx (by kernel_rfl) (fun k hk => by cases hk; kernel_rfl) (by kernel_rfl) (met os _))) ?_
  intro W base args ds gs before hval hW _ hk _ hL hSh _
  exact law_contract (s := Rows.highApartSpec) (n := 8) (tb := 4) (shs := shs) laidOut (by kernel_rfl) (by kernel_rfl) (by kernel_rfl) (by kernel_rfl) rfl (fun H ds h => by
    match ds, h with
    | [d0, d1], _ => rfl) (by decide) fc (laid_of hL hSh) hval hW (small_le (hk _ rfl))
theorem said : Rows.HighApartUptoSaid :=
  OpenClaim.holds_of_cond 5 Tryz.f5 rfl rfl rfl rfl rfl rfl rfl ⟨rfl, rfl, rfl, rfl, rfl⟩ rfl rfl rfl rfl rfl (by kernel_rfl) (by kernel_rfl) (by kernel_rfl)
    (of_decide_eq_true (by kernel_rfl)) (by unfold Func.isWrapper; first | (rw [if_pos (by decide +kernel)]; kernel_rfl) | (rw [if_neg (by decide +kernel)]; exact ⟨rfl, rfl⟩))
    (fun os started H enc _ F => by rw [OpenClaim.pre_eq_preRow]; exact lifted os started H enc F)
theorem plain (f : FuncId) (fn : Func) (hf : Tryz.pinned.checked.prog.funcNamed "tartan/tartanlaw19.HighApart" = some f) (hfn : Tryz.pinned.checked.prog.funcs[f]? = some fn) :
    true = Tryz.pinned.checked.prog.looks [] ∧ ∀ (j : Nat) t, fn.params[j]? = some t → Tryz.pinned.checked.prog.wantsStandIn t = false := by
  obtain rfl : f = 5 := (Option.some.inj ((show Tryz.pinned.checked.prog.funcNamed "tartan/tartanlaw19.HighApart" = some 5 by kernel_rfl).symm.trans hf)).symm
  obtain rfl : fn = Tryz.f5 := (Option.some.inj ((show Tryz.pinned.checked.prog.funcs[5]? = some Tryz.f5 by kernel_rfl).symm.trans hfn)).symm
  exact ⟨by kernel_rfl, plain_of (by kernel_rfl)⟩
theorem proved : Rows.HighApartUptoCardSaid :=
  Claim7.holds_tied_plain_at .later [] _ _ _ _ said (fun _ h => by cases h) (by kernel_rfl) (fun _ h => by cases h) highApartUpto_row_tie rfl ⟨rfl, rfl⟩ (by kernel_rfl) (by kernel_rfl) plain (by kernel_rfl)
#print axioms proved
end Go.Proofs.YtlabdffgcciepaaGreatDoor.highApart
