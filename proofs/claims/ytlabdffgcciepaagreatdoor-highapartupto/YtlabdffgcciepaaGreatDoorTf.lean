/- Symbolic data, and what the operations do to it. -/
import Derived.Test.YtlabdffgcciepaaGreatDoorTe
import Derived.Test.YtlabdffgcciepaaGreatDoorTj
set_option linter.unusedSimpArgs false
set_option linter.unusedVariables false
set_option linter.unusedSectionVars false
namespace Go.Tn
open Go.RowKit
theorem fx_wide {P : Program} [Fen P] (ht : ¬ tame P) : Fx P = Fence.wide := by
  have e : (fun f : FuncId => tame P → (P.funcs[f]?).isSome = true) = fun _ => True := by
    funext g
    exact propext ⟨fun _ => trivial, fun _ e => absurd e ht⟩
  show ({ Fence.wide with fn := fun f => tame P → (P.funcs[f]?).isSome = true } : Fence) = _
  rw [e]; rfl
theorem callsF_wide {P : Program} (i j : Fen P) (ht : ¬ @tame P j) {f : FuncId} {args : Array Value} {w : World} {R : Ending → World → Prop} (h : @CallsF P i f args w R) : @CallsF P j f args w R := by
  have h1 : Calls P f args w R := CallsIn.calls h (fun k d hd => by cases hd)
  show CallsIn (@Fx P j) 0 P f args w R
  rw [@fx_wide P j ht]
  exact callsIn_wide.2 h1
def nsq : Out → Bool
  | .seq _ => false
  | _ => true
theorem fc_wide {P : Program} (i j : Fen P) (ht : ¬ @tame P j) {f : Nat} {caps args : List D} {out : Out} (hn : nsq out = true) (h : @FC P i f caps args out) : @FC P j f caps args out := by
  cases out with
  | ret d => exact ⟨h.1, fun S w cs vs hla hx h1 h2 => callsF_wide i j ht (h.2 S w cs vs hla hx h1 h2)⟩
  | own e sz rows => exact ⟨h.1, fun S w cs vs hla hx h1 h2 => callsF_wide i j ht (h.2 S w cs vs hla hx h1 h2)⟩
  | seq ys => cases hn
  | pan d => exact ⟨h.1, fun S w cs vs hla hx h1 h2 => callsF_wide i j ht (h.2 S w cs vs hla hx h1 h2)⟩
theorem stC_wide {P : Program} (i j : Fen P) (ht : ¬ @tame P j) {f : Nat} {c : List D → List D → Prop × Out} (hn : ∀ caps args, nsq (c caps args).2 = true) (h : @StC P i f c) : @StC P j f c := fun caps args hp => fc_wide i j ht (hn _ _) (h caps args hp)
theorem fc_calls {P : Program} [Fen P] {f : Nat} {args : List D} {d : D} (ht : ¬ tame P) (hent : Ent P f)
    (h : ∀ (S : Ex) (w : World) (vs : List Value), Laid P S w → (∀ b, 0 < S b → b < w.heap.size) → RdL S w args noPl vs →
      Calls P f vs.toArray w fun e w' => Below w.heap.size w w' ∧ ∃ v, e = .returned v ∧ ∀ S', Rd S' w' d noPl v) : FC P f [] args (.ret d) := by
  refine ⟨hent, fun S w cs vs hla hext h1 h2 => ?_⟩
  simp only [RdL] at h1; subst h1
  rw [List.append_nil]
  show CallsIn (Fx P) 0 P f vs.toArray w _
  rw [fx_wide ht, callsIn_wide]
  refine Calls.mono (h S w vs hla hext h2) fun e w' ⟨hb, v, he, hv⟩ => ?_
  subst he
  refine ⟨fun b => if b < w.heap.size then S b else 0, hb, fun b hb => by simp only [hb, if_true], fun b hb' => ?_, hv _⟩
  by_cases hlt : b < w.heap.size
  · exact Nat.lt_of_lt_of_le hlt hb.size
  · simp only [hlt, if_false] at hb'; omega
end Go.Tn
