/-
  A prover for first-order facts about the program: symbolic data, what the operations do to it, and the law that joins them. By an AI agent.
-/
import Derived.Test.YtknkjakppikjeaaGreatTM
import Derived.Test.YtknkjakppikjeaaGreatTv
set_option linter.unusedSimpArgs false
set_option linter.unusedVariables false

namespace Go.Tn
open Go.RowKit

section
variable {P : Program} {B : Base} {S : Ex} {p : Pl} {w : World} {H : Hp} {U : Us} {t t' : Nat} {ty ty' : Ty}

def convK (k : TK) (x : D) (H : Hp) (U : Us) : Res :=
  match k, x with
  | .int k, .int _ n => .ok True (InR k n) (.int k n) H U
  | .str, .str s => okR (.str s) H U
  | _, _ => .bad
theorem good_conv (hh : Heap B S p H U w) (hs : TyFact P t ty) (hd : TyFact P t' ty') {x : D} {v : Value} (hx : Rd S w x p v) : Good P B S p w (convert t t' v) (convK ty'.kind x H U) := by
  obtain ⟨d, hu, _⟩ := hs.und
  obtain ⟨d', hu', hk'⟩ := hd.und
  unfold convK
  split
  · rename_i k j n hk
    simp only [hk] at hk'
    subst hk'
    simp only [Rd] at hx; subst hx
    refine ⟨trivial, fun hc => RunOk.same hh (v := .int k n) ?_ rfl⟩
    simp [convert, run_und hu, run_und hu', Conv.intToInt, wrap_of hc]
  · rename_i s hk
    simp only [hk] at hk'
    subst hk'
    obtain ⟨rfl, hl⟩ := hx
    refine Good.same hh (v := .string ⟨s.toArray⟩) ?_ ⟨rfl, hl⟩
    simp [convert, run_und hu, run_und hu']
  · trivial

def mkifcR (t : Nat) (ty : Ty) (x : D) (H : Hp) (U : Us) : Res := match ty.kind with | .iface => .bad | _ => okR (.ifc t x) H U
theorem good_mkifc (hh : Heap B S p H U w) (hs : TyFact P t ty) {x : D} {v : Value} (hx : Rd S w x p v) : Good P B S p w (Instr.makeInterface t v) (mkifcR t ty x H U) := by
  obtain ⟨d, hu, hk⟩ := hs.und
  unfold mkifcR
  have fin : (∀ m, d ≠ .interface m) → Good P B S p w (Instr.makeInterface t v) (okR (.ifc t x) H U) := fun hn => by
    refine Good.same hh (v := .iface t v) ?_ ⟨v, rfl, hx⟩
    simp only [Instr.makeInterface, Sem.run_bind, run_und hu, Result.andThen_ok]
    cases d <;> first | rfl | exact absurd rfl (hn _)
  cases hkk : ty.kind <;> rw [hkk] at hk <;> simp only at hk ⊢ <;> first | trivial | (refine fin fun m e => ?_; subst e; first | (cases hk; done) | (cases hk.1; done) | (obtain ⟨_, e, _⟩ := hk; cases e; done) | (obtain ⟨_, _, _, e⟩ := hk; cases e; done) | exact hk)

def maxR (x y : D) (H : Hp) (U : Us) : Res := match x, y with | .int k a, .int _ b => okR (.int k (max a b)) H U | _, _ => .bad
def minR (x y : D) (H : Hp) (U : Us) : Res := match x, y with | .int k a, .int _ b => okR (.int k (min a b)) H U | _, _ => .bad
theorem good_max (hh : Heap B S p H U w) {x y : D} {v u : Value} {tys : Array TypeId} {ty : TypeId} (hx : Rd S w x p v) (hy : Rd S w y p u) : Good P B S p w (Builtin.max_ tys ty #[v, u]) (maxR x y H U) := by
  unfold maxR; split
  · rename_i k a k' b
    simp only [Rd] at hx hy; subst hx hy
    refine Good.same hh (v := .int k (max a b)) ?_ rfl
    simp only [Builtin.max_, List.foldlM, Builtin.max2, Sem.run_bind, Sem.run_pure, Result.andThen_ok]
    congr 2
    split <;> omega
  · trivial
theorem good_min (hh : Heap B S p H U w) {x y : D} {v u : Value} {tys : Array TypeId} {ty : TypeId} (hx : Rd S w x p v) (hy : Rd S w y p u) : Good P B S p w (Builtin.min_ tys ty #[v, u]) (minR x y H U) := by
  unfold minR; split
  · rename_i k a k' b
    simp only [Rd] at hx hy; subst hx hy
    refine Good.same hh (v := .int k (min a b)) ?_ rfl
    simp only [Builtin.min_, List.foldlM, Builtin.min2, Sem.run_bind, Sem.run_pure, Result.andThen_ok]
    congr 2
    split <;> omega
  · trivial
end
end Go.Tn
