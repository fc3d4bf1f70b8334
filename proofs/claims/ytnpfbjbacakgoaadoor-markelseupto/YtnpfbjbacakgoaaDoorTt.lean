/-
  A prover for first-order facts about the program: symbolic data, what the operations do to it, and the law that joins them. By an AI agent.
-/
import Derived.Test.YtnpfbjbacakgoaaDoorTz
set_option linter.unusedSimpArgs false
set_option linter.unusedVariables false
set_option linter.unusedSectionVars false

/- Small regions whose order is drawn: every order is gone through. -/
namespace Go.Tn
open Go.RowKit

mutual
inductive Tr where
  | leaf
  | node (l : Trs)
  | nodeF (l : Trs)
inductive Trs where
  | nil
  | cons (i : Nat) (t : Tr) (r : Trs)
end
section
variable (P : Program) (C : Spec) (ops : Array Oper)
def trO (dr : Bool) (o : Option Oper) (K : Kt) : Kt := match o with | some o => step P C dr ops o (nK K) | none => fun _ _ _ => False
mutual
def trK (K : Kt) : Tr → Kt
  | .leaf => K
  | .node l => trsK true K l
  | .nodeF l => trsK false K l
def trsK (dr : Bool) (K : Kt) : Trs → Kt
  | .nil => fun _ _ _ => True
  | .cons i t r => fun T H U => trO P C ops dr ops[i]? (trK K t) T H U ∧ trsK dr K r T H U
end
mutual
def chkTr : Nat → Tr → Array Bool → Bool
  | _, .leaf, listed => (Region.ready .any ops listed).isEmpty
  | n + 1, .node l, listed => !(Region.ready .any ops listed).isEmpty && chkTrs n (Region.ready .any ops listed) l listed
  | n + 1, .nodeF l, listed => !(Region.ready .any ops listed).isEmpty && chkTrs n (Region.ready .any ops listed) l listed
  | 0, .node _, _ => false
  | 0, .nodeF _, _ => false
def chkTrs : Nat → List Nat → Trs → Array Bool → Bool
  | _, [], .nil, _ => true
  | n, i :: is, .cons j t r, listed => Nat.beq i j && (chkTr n t (listed.setIfInBounds i true) && chkTrs n is r listed)
  | _, _, _, _ => false
end
end
section
variable {P : Program} {C : Spec} {B : Base} [LB P B] {N n : Nat} {ro : Option Nat} {ops : Array Oper} {S : Ex} {p : Pl} {T : Nat → D} {H : Hp} {U : Us} {a : Act} {w : World}
theorem trs_at {dr : Bool} {K : Kt} {m : Nat} {listed : Array Bool} {i : Nat} : ∀ {is : List Nat} {r : Trs}, chkTrs ops m is r listed = true → i ∈ is → trsK P C ops dr K r T H U → ∃ t, chkTr ops m t (listed.setIfInBounds i true) = true ∧ trO P C ops dr ops[i]? (trK P C ops K t) T H U
  | j :: is, .cons k t r, h, hi, hk => by
    simp only [chkTrs, Bool.and_eq_true, Nat.beq_eq] at h
    obtain ⟨rfl, h1, h2⟩ := h
    simp only [trsK] at hk
    rcases List.mem_cons.1 hi with rfl | hi
    · exact ⟨t, h1, hk.1⟩
    · exact trs_at h2 hi hk.2
  | [], _, _, hi, _ => by simp at hi
theorem tr_sound {K : Kt} (hJ : B.it = true → JStep P B) (hnm : B.it = true → B.nm = true) (hN : ∀ o ∈ ops.toList, ∀ i, o.dst = some i → i < N) {Q : Exit → Act → World → Prop} (hy : ∀ ch S' a' w', B.Jp ch S' w' → a'.defers = [] → Q (.panic ch) a' w')
    (hQ : ∀ S' p' T' H' U' a' w', K T' H' U' → R B N S' p' T' H' U' a' w' → Q .normal a' w') :
    ∀ (fuel : Nat) (t : Tr) (listed : Array Bool) {S : Ex} {p : Pl} {T : Nat → D} {H : Hp} {U : Us} {a : Act} {w : World},
      chkTr ops fuel t listed = true → trK P C ops K t T H U → R B N S p T H U a w → wpAnyIn (Fro P ro) n P .any ops Q fuel listed a w := by
  intro fuel
  induction fuel with
  | zero =>
    intro t listed S p T H U a w hc hk hR
    cases t with
    | leaf =>
      simp only [chkTr, List.isEmpty_iff] at hc
      exact ⟨hc, hQ _ _ _ _ _ _ _ hk hR⟩
    | node l => simp [chkTr] at hc
    | nodeF l => simp [chkTr] at hc
  | succ fuel ih =>
    intro t listed S p T H U a w hc hk hR
    cases t with
    | leaf =>
      simp only [chkTr, List.isEmpty_iff] at hc
      refine ⟨fun _ => hQ _ _ _ _ _ _ _ hk hR, fun i hi => ?_⟩
      rw [hc] at hi; simp at hi
    | node l =>
      simp only [chkTr, Bool.and_eq_true, Bool.not_eq_true', List.isEmpty_eq_false_iff] at hc
      refine ⟨fun hr => absurd hr hc.1, fun i hi => ?_⟩
      simp only [trK] at hk
      obtain ⟨t, h1, h2⟩ := trs_at hc.2 hi hk
      unfold wpOpIn
      cases ho : ops[i]? with
      | none => rw [ho] at h2; exact h2.elim
      | some o =>
        rw [ho] at h2
        simp only
        refine op_sound hJ hR o (hN o (by rw [Array.mem_toList_iff]; exact Array.mem_of_getElem? ho)) h2 (fun S' p' T' H' U' a' w' hk' hR' => ?_) (fun _ _ _ _ _ _ _ _ _ hk' => hk'.elim) hy
        exact ih t _ h1 hk' hR'
    | nodeF l =>
      simp only [chkTr, Bool.and_eq_true, Bool.not_eq_true', List.isEmpty_eq_false_iff] at hc
      refine ⟨fun hr => absurd hr hc.1, fun i hi => ?_⟩
      simp only [trK] at hk
      obtain ⟨t, h1, h2⟩ := trs_at hc.2 hi hk
      unfold wpOpIn
      cases ho : ops[i]? with
      | none => rw [ho] at h2; exact h2.elim
      | some o =>
        rw [ho] at h2
        simp only
        refine op_sound hJ hR o (hN o (by rw [Array.mem_toList_iff]; exact Array.mem_of_getElem? ho)) h2 (fun S' p' T' H' U' a' w' hk' hR' => ?_) (fun _ _ _ _ _ _ _ _ _ hk' => hk'.elim) hy
        exact ih t _ h1 hk' hR'
theorem region_soundT {K : X → Kt} (hJ : B.it = true → JStep P B) (hnm : B.it = true → B.nm = true) (hm : P.follows .mixedOrders = true) {id : Nat} {l : List Oper} (hN : ∀ o ∈ l, ∀ i, o.dst = some i → i < N) {t : Tr}
    (hc : chkTr l.toArray l.toArray.size t (Array.replicate l.toArray.size false) = true) (hk : trK P C l.toArray (K .normal) t T H U) (hR : R B N S p T H U a w) {Q : Exit → Act → World → Prop}
    (hQ : ∀ S' p' T' H' U' a' w', K .normal T' H' U' → R B N S' p' T' H' U' a' w' → Q .normal a' w') (hy : ∀ ch S' a' w', B.Jp ch S' w' → a'.defers = [] → Q (.panic ch) a' w') : (Code.region id l.toArray true).wpIn (Fro P ro) n P Q a w :=
  wpIn_region_any hm (tr_sound (C := C) (K := K .normal) hJ hnm (by simpa using hN) hy hQ l.toArray.size t _ hc hk hR.drawn)
end
end Go.Tn
