/- Symbolic data, and what the operations do to it. -/
import Derived.Test.YtlabdffgcciepaaGreatDoorTn19
set_option linter.unusedSimpArgs false
set_option linter.unusedVariables false
set_option linter.unusedSectionVars false
namespace Go.Tn
open Go.RowKit
section
variable {P : Program} [Fen P] {C : Spec} {B : Base} [LB P B] {N n : Nat} {ro : Option Nat} {dr : Bool} {ops : Array Oper} {S S' : Ex} {p : Pl} {T : Nat → D} {H : Hp} {U : Us} {a : Act} {w w' : World} {dst : Option Nat}
theorem R.drawn (h : R B N S p T H U a w) : R B N S p T H U a { w with drawn := w.drawn + 1 } := by
  have hb : Below w.heap.size w { w with drawn := w.drawn + 1 } := ⟨rfl, rfl, rfl, Nat.le_refl _, fun _ _ => rfl⟩
  obtain ⟨hh, hk⟩ := h.hp.grow (S' := S) hb (fun _ _ => rfl) (fun b hb => h.hp.ext b hb)
  exact ⟨fun t => Rd.mono hk _ (PlLe.refl _) (h.tmp t), h.size, hh, h.dfs.mono hk, B.Kpok _ _ _ _ h.kp hk, h.lk⟩
theorem listed_in {listed : Array Bool} {i : Nat} (h : listed.getD i true = false) : i < listed.size ∧ listed.getD i false = false := by
  by_cases hi : i < listed.size
  · refine ⟨hi, ?_⟩
    simp [Array.getD_eq_getD_getElem?, hi] at h ⊢; exact h
  · simp [Array.getD_eq_getD_getElem?, hi] at h
theorem listed_out {listed : Array Bool} {i : Nat} (hi : i < listed.size) (h : listed.getD i false = false) : listed.getD i true = false := by
  simp [Array.getD_eq_getD_getElem?, hi] at h ⊢; exact h
theorem any_sound {K : Kt} (hJ : B.it = true → JStep P B) (hnm : B.it = true → B.nm = true) (hchk : chkR ops = true) (hN : ∀ o ∈ ops.toList, ∀ i, o.dst = some i → i < N) {Q : Exit → Act → World → Prop} (hy : ∀ ch S' a' w', B.Jp ch S' w' → a'.defers = [] → Q (.panic ch) a' w')
    (hQ : ∀ S' p' T' H' U' a' w', K T' H' U' → R B N S' p' T' H' U' a' w' → Q .normal a' w') :
    ∀ (fuel : Nat) (listed : Array Bool) (L : List Nat) {S : Ex} {p : Pl} {T : Nat → D} {H : Hp} {U : Us} {a : Act} {w : World},
      listed.size = ops.size → L.Pairwise (· < ·) → (∀ i, i ∈ L ↔ listed.getD i true = false) → Closed ops listed → L.length ≤ fuel →
      opsT P C ops (L.filterMap fun i => ops[i]?) K T H U → R B N S p T H U a w → wpAnyIn (Fro P ro) n P .any ops Q fuel listed a w := by
  have hck : ∀ i o, ops[i]? = some o → (∀ e ∈ o.after, Region.binds .any e = true → e.on < i) ∧ ∀ j y, j < i → ops[j]? = some y → cmB ops y o = true ∨ anc ops ops.size i j = true := by
    intro i o ho
    have hi : i < ops.size := (Array.getElem?_eq_some_iff.1 ho).1
    have h := List.all_eq_true.1 hchk i (List.mem_range.2 hi)
    simp only [chkI, ho, Bool.and_eq_true, List.all_eq_true] at h
    refine ⟨fun e he hb => ?_, fun j y hj hy => ?_⟩
    · have := h.1 e (by simpa using he)
      simp only [hb, Bool.not_true, Bool.false_or, Nat.blt_eq] at this
      exact this
    · have := h.2 j (List.mem_range.2 hj)
      simp only [hy, Bool.or_eq_true] at this
      exact this
  have none_ready : ∀ (listed : Array Bool) (L : List Nat), listed.size = ops.size → L.Pairwise (· < ·) → (∀ i, i ∈ L ↔ listed.getD i true = false) → Region.ready .any ops listed = [] → L = [] := by
    intro listed L hs hp hL hr
    cases L with
    | nil => rfl
    | cons i L =>
      exfalso
      have hi := (hL i).1 (by simp)
      have hlt := (listed_in hi).1
      rw [hs] at hlt
      have ho : ops[i]? = some ops[i] := Array.getElem?_eq_getElem hlt
      have : i ∈ Region.ready .any ops listed := by
        refine mem_ready.2 ⟨hi, _, ho, fun e he hb => ?_⟩
        have hlt' := (hck i _ ho).1 e he hb
        cases hx : listed.getD e.on false with
        | true => rfl
        | false =>
          have hin := (hL e.on).2 (listed_out (by omega) hx)
          rcases List.mem_cons.1 hin with h | h
          · omega
          · have := (List.pairwise_cons.1 hp).1 _ h
            omega
      rw [hr] at this; simp at this
  intro fuel
  induction fuel with
  | zero =>
    intro listed L S p T H U a w hs hp hL hc hf hk hR
    have : L = [] := List.length_eq_zero_iff.1 (by omega)
    subst this
    refine ⟨?_, hQ _ _ _ _ _ _ _ hk hR⟩
    cases hr : Region.ready .any ops listed with
    | nil => rfl
    | cons i is =>
      have hi : i ∈ Region.ready .any ops listed := by rw [hr]; simp
      have := (hL i).2 (mem_ready.1 hi).1
      simp at this
  | succ fuel ih =>
    intro listed L S p T H U a w hs hp hL hc hf hk hR
    refine ⟨fun hr => ?_, fun i hi => ?_⟩
    · have := none_ready listed L hs hp hL hr
      subst this
      exact hQ _ _ _ _ _ _ _ hk hR
    · obtain ⟨hun, o, ho, hall⟩ := mem_ready.1 hi
      have hin := (hL i).2 hun
      obtain ⟨L1, L2, rfl⟩ := List.append_of_mem hin
      have hpw := List.pairwise_append.1 hp
      rw [List.filterMap_append, List.filterMap_cons, ho] at hk
      have hk2 := bubble (x := o) (L1 := L1.filterMap fun i => ops[i]?) (L2 := L2.filterMap fun i => ops[i]?) (fun y hy => by
        obtain ⟨j, hj, hjy⟩ := List.mem_filterMap.1 hy
        have hlt : j < i := hpw.2.2 j hj i (by simp)
        rcases (hck i o ho).2 j y hlt hjy with h | h
        · exact h
        · exfalso
          have h1 := anc_spec hc ops.size i j o ho hall h
          have h2 := (listed_in ((hL j).1 (by simp [hj]))).2
          rw [h1] at h2; cases h2) hk
      unfold wpOpIn
      rw [ho]
      simp only
      refine op_sound hJ hR o (hN o (by rw [Array.mem_toList_iff]; exact Array.mem_of_getElem? ho)) hk2 (fun S' p' T' H' U' a' w' hk' hR' => ?_) (fun _ _ _ _ _ _ _ _ _ hk' => hk'.elim) hy
      replace hk' : opsT P C ops (List.filterMap (fun i => ops[i]?) L1 ++ List.filterMap (fun i => ops[i]?) L2) K T' H' U' := hk'
      rw [← List.filterMap_append] at hk'
      have hsize : i < listed.size := (listed_in hun).1
      refine ih (listed.setIfInBounds i true) (L1 ++ L2) (by simpa using hs) ?_ (fun j => ?_) ?_ ?_ hk' hR'
      · exact List.pairwise_append.2 ⟨hpw.1, (List.pairwise_cons.1 hpw.2.1).2, fun a ha b hb => hpw.2.2 a ha b (by simp [hb])⟩
      · by_cases hji : i = j
        · subst hji
          have h1 : (listed.setIfInBounds i true).getD i true = true := by simp [Array.getD_eq_getD_getElem?, hsize]
          rw [h1]
          constructor
          · intro h
            exfalso
            rcases List.mem_append.1 h with h | h
            · have := hpw.2.2 i h i (by simp); omega
            · have := (List.pairwise_cons.1 hpw.2.1).1 i h; omega
          · intro h; cases h
        · rw [getD_set_ne true hji, ← hL j]
          simp only [List.mem_append, List.mem_cons]
          constructor
          · rintro (h | h)
            · exact .inl h
            · exact .inr (.inr h)
          · rintro (h | h | h)
            · exact .inl h
            · exact absurd h.symm hji
            · exact .inr h
      · intro k ok hok hkl e he hb
        by_cases hki : i = k
        · subst hki
          rw [ho] at hok; cases hok
          exact getD_set_true (hall e he hb)
        · rw [getD_set_ne false hki] at hkl
          exact getD_set_true (hc k ok hok hkl e he hb)
      · simp only [List.length_append, List.length_cons] at hf ⊢; omega
theorem any_soundL {K : X → Kt} {m : Nat} {ol : Oper} (hJ : B.it = true → JStep P B) (hnm : B.it = true → B.nm = true) (hchk : chkR ops = true) (hN : ∀ o ∈ ops.toList, ∀ i, o.dst = some i → i < N) {Q : Exit → Act → World → Prop} (hy : ∀ ch S' a' w', B.Jp ch S' w' → a'.defers = [] → Q (.panic ch) a' w')
    (hsz : ops.size = m + 1) (hol : ops[m]? = some ol) (hla : ∀ j, j < m → anc ops ops.size m j = true)
    (hQ : ∀ S' p' T' H' U' a' w', K .normal T' H' U' → R B N S' p' T' H' U' a' w' → Q .normal a' w')
    (hp' : ∀ d v S' p' T' H' U' a' w', K (.pan d) T' H' U' → R B N S' p' T' H' U' a' w' → Rd S' w' d noPl v → Q (.panic (pch v)) a' w') :
    ∀ (fuel : Nat) (listed : Array Bool) (L : List Nat) {S : Ex} {p : Pl} {T : Nat → D} {H : Hp} {U : Us} {a : Act} {w : World},
      listed.size = ops.size → L.Pairwise (· < ·) → (∀ i, i ∈ L → i < m) → (∀ i, i ∈ L ++ [m] ↔ listed.getD i true = false) → Closed ops listed → L.length + 1 ≤ fuel →
      opsT P C ops (L.filterMap fun i => ops[i]?) (fun T H U => step P C false ops ol K T H U) T H U → R B N S p T H U a w → wpAnyIn (Fro P ro) n P .any ops Q fuel listed a w := by
  have hck : ∀ i o, ops[i]? = some o → (∀ e ∈ o.after, Region.binds .any e = true → e.on < i) ∧ ∀ j y, j < i → ops[j]? = some y → cmB ops y o = true ∨ anc ops ops.size i j = true := by
    intro i o ho
    have hi : i < ops.size := (Array.getElem?_eq_some_iff.1 ho).1
    have h := List.all_eq_true.1 hchk i (List.mem_range.2 hi)
    simp only [chkI, ho, Bool.and_eq_true, List.all_eq_true] at h
    refine ⟨fun e he hb => ?_, fun j y hj hy => ?_⟩
    · have := h.1 e (by simpa using he)
      simp only [hb, Bool.not_true, Bool.false_or, Nat.blt_eq] at this
      exact this
    · have := h.2 j (List.mem_range.2 hj)
      simp only [hy, Bool.or_eq_true] at this
      exact this
  have none_ready : ∀ (listed : Array Bool) (L : List Nat), listed.size = ops.size → L.Pairwise (· < ·) → (∀ i, i ∈ L ↔ listed.getD i true = false) → Region.ready .any ops listed = [] → L = [] := by
    intro listed L hs hp hL hr
    cases L with
    | nil => rfl
    | cons i L =>
      exfalso
      have hi := (hL i).1 (by simp)
      have hlt := (listed_in hi).1
      rw [hs] at hlt
      have ho : ops[i]? = some ops[i] := Array.getElem?_eq_getElem hlt
      have : i ∈ Region.ready .any ops listed := by
        refine mem_ready.2 ⟨hi, _, ho, fun e he hb => ?_⟩
        have hlt' := (hck i _ ho).1 e he hb
        cases hx : listed.getD e.on false with
        | true => rfl
        | false =>
          have hin := (hL e.on).2 (listed_out (by omega) hx)
          rcases List.mem_cons.1 hin with h | h
          · omega
          · have := (List.pairwise_cons.1 hp).1 _ h
            omega
      rw [hr] at this; simp at this
  have pw : ∀ {L : List Nat}, L.Pairwise (· < ·) → (∀ i, i ∈ L → i < m) → (L ++ [m]).Pairwise (· < ·) := fun {L} h1 h2 => List.pairwise_append.2 ⟨h1, by simp, fun a ha b hb => by
    obtain rfl : b = m := by simpa using hb
    exact h2 a ha⟩
  intro fuel
  induction fuel with
  | zero => intro listed L S p T H U a w _ _ _ _ _ hf; omega
  | succ fuel ih =>
    intro listed L S p T H U a w hs hp hlt hL hc hf hk hR
    refine ⟨fun hr => ?_, fun i hi => ?_⟩
    · have := none_ready listed (L ++ [m]) hs (pw hp hlt) hL hr
      simp at this
    · obtain ⟨hun, o, ho, hall⟩ := mem_ready.1 hi
      have hin := (hL i).2 hun
      have hsize : i < listed.size := (listed_in hun).1
      have hclosed : Closed ops (listed.setIfInBounds i true) := by
        intro k ok hok hkl e he hb
        by_cases hki : i = k
        · subst hki
          rw [ho] at hok; cases hok
          exact getD_set_true (hall e he hb)
        · rw [getD_set_ne false hki] at hkl
          exact getD_set_true (hc k ok hok hkl e he hb)
      by_cases him : i = m
      · subst him
        have hLe : L = [] := by
          cases L with
          | nil => rfl
          | cons j L =>
            exfalso
            have hj := hlt j (by simp)
            have h1 := anc_spec hc ops.size i j o ho hall (hla j hj)
            have h2 := (listed_in ((hL j).1 (by simp))).2
            rw [h1] at h2; cases h2
        subst hLe
        rw [ho] at hol; cases hol
        unfold wpOpIn
        rw [ho]
        simp only
        refine op_sound (dr := false) hJ hR ol (hN ol (by rw [Array.mem_toList_iff]; exact Array.mem_of_getElem? ho)) hk (fun S' p' T' H' U' a' w' hk' hR' => ?_) hp' hy
        refine any_sound (C := C) (K := K .normal) hJ hnm hchk hN hy hQ fuel (listed.setIfInBounds i true) [] (by simpa using hs) List.Pairwise.nil (fun j => ?_) hclosed (by simp) hk' hR'
        constructor
        · intro h; simp at h
        · intro h
          exfalso
          by_cases hji : i = j
          · subst hji
            have h1 : (listed.setIfInBounds i true).getD i true = true := by simp [Array.getD_eq_getD_getElem?, hsize]
            rw [h1] at h; cases h
          · rw [getD_set_ne true hji] at h
            have := (hL j).2 h
            exact hji (by simpa using this : j = i).symm
      · have hinL : i ∈ L := (List.mem_append.1 hin).resolve_right (fun h => him (by simpa using h))
        obtain ⟨L1, L2, rfl⟩ := List.append_of_mem hinL
        have hpw := List.pairwise_append.1 hp
        rw [List.filterMap_append, List.filterMap_cons, ho] at hk
        have hk2 := bubble (x := o) (L1 := L1.filterMap fun i => ops[i]?) (L2 := L2.filterMap fun i => ops[i]?) (fun y hy => by
          obtain ⟨j, hj, hjy⟩ := List.mem_filterMap.1 hy
          have hlt : j < i := hpw.2.2 j hj i (by simp)
          rcases (hck i o ho).2 j y hlt hjy with h | h
          · exact h
          · exfalso
            have h1 := anc_spec hc ops.size i j o ho hall h
            have h2 := (listed_in ((hL j).1 (by simp [hj]))).2
            rw [h1] at h2; cases h2) hk
        unfold wpOpIn
        rw [ho]
        simp only
        refine op_sound hJ hR o (hN o (by rw [Array.mem_toList_iff]; exact Array.mem_of_getElem? ho)) hk2 (fun S' p' T' H' U' a' w' hk' hR' => ?_) (fun _ _ _ _ _ _ _ _ _ hk' => hk'.elim) hy
        replace hk' : opsT P C ops (List.filterMap (fun i => ops[i]?) L1 ++ List.filterMap (fun i => ops[i]?) L2) (fun T H U => step P C false ops ol K T H U) T' H' U' := hk'
        rw [← List.filterMap_append] at hk'
        refine ih (listed.setIfInBounds i true) (L1 ++ L2) (by simpa using hs) ?_ (fun j hj => hlt j ?_) (fun j => ?_) hclosed ?_ hk' hR'
        · exact List.pairwise_append.2 ⟨hpw.1, (List.pairwise_cons.1 hpw.2.1).2, fun a ha b hb => hpw.2.2 a ha b (by simp [hb])⟩
        · rcases List.mem_append.1 hj with h | h
          · exact List.mem_append_left _ h
          · exact List.mem_append_right _ (List.mem_cons_of_mem _ h)
        · by_cases hji : i = j
          · subst hji
            have h1 : (listed.setIfInBounds i true).getD i true = true := by simp [Array.getD_eq_getD_getElem?, hsize]
            rw [h1]
            constructor
            · intro h
              exfalso
              rcases List.mem_append.1 h with h | h
              · rcases List.mem_append.1 h with h | h
                · have := hpw.2.2 i h i (by simp); omega
                · have := (List.pairwise_cons.1 hpw.2.1).1 i h; omega
              · exact him (by simpa using h)
            · intro h; cases h
          · rw [getD_set_ne true hji, ← hL j]
            simp only [List.mem_append, List.mem_cons]
            constructor
            · rintro ((h | h) | h)
              · exact .inl (.inl h)
              · exact .inl (.inr (.inr h))
              · exact .inr h
            · rintro ((h | h | h) | h)
              · exact .inl (.inl h)
              · exact absurd h.symm hji
              · exact .inl (.inr h)
              · exact .inr h
        · simp only [List.length_append, List.length_cons] at hf ⊢; omega
theorem rep_getD (m i : Nat) (d : Bool) : (Array.replicate m false).getD i d = if i < m then false else d := by
  rw [Array.getD_eq_getD_getElem?, Array.getElem?_replicate]
  split <;> rfl
def iniL : List Oper → List Oper
  | [] => []
  | [_] => []
  | a :: b :: r => a :: iniL (b :: r)
def lasL : List Oper → Option Oper
  | [] => none
  | [a] => some a
  | _ :: b :: r => lasL (b :: r)
def lstK (P : Program) [Fen P] (C : Spec) (ops : Array Oper) (o : Option Oper) (K : X → Kt) : X → Kt := fun e => match e with | .normal => (match o with | some o => step P C false ops o K | none => K .normal) | _ => fun _ _ _ => False
theorem ini_las : ∀ {l : List Oper} {o : Oper}, lasL l = some o → l = iniL l ++ [o]
  | [], _, h => by simp [lasL] at h
  | [a], _, h => by simp only [lasL, Option.some.injEq] at h; subst h; rfl
  | a :: b :: r, _, h => by
    simp only [lasL] at h
    simp only [iniL, List.cons_append]
    congr 1
    exact ini_las h
theorem las_none : ∀ {l : List Oper}, lasL l = none → l = []
  | [], _ => rfl
  | [a], h => by simp [lasL] at h
  | a :: b :: r, h => by
    simp only [lasL] at h
    have := las_none h
    cases this
theorem filt_at (l : List Oper) : ∀ n, n ≤ l.length → (List.range n).filterMap (fun i => l.toArray[i]?) = l.take n
  | 0, _ => by simp
  | n + 1, h => by
    rw [List.range_succ, List.filterMap_append, filt_at l n (by omega), List.take_add_one]
    congr 1
    simp [List.getElem?_eq_getElem (show n < l.length by omega)]
theorem region_sound {K : X → Kt} (hJ : B.it = true → JStep P B) (hnm : B.it = true → B.nm = true) (hm : P.follows .mixedOrders = true) {id : Nat} {l : List Oper} (hchk : dr = true → chkR l.toArray = true) (hN : ∀ o ∈ l, ∀ i, o.dst = some i → i < N)
    (hk : opsK P C dr l.toArray l K T H U) (hR : R B N S p T H U a w) {Q : Exit → Act → World → Prop}
    (hQ : ∀ S' p' T' H' U' a' w', K .normal T' H' U' → R B N S' p' T' H' U' a' w' → Q .normal a' w')
    (hp : ∀ d v S' p' T' H' U' a' w', K (.pan d) T' H' U' → R B N S' p' T' H' U' a' w' → Rd S' w' d noPl v → Q (.panic (pch v)) a' w') (hy : ∀ ch S' a' w', B.Jp ch S' w' → a'.defers = [] → Q (.panic ch) a' w') : (Code.region id l.toArray dr).wpIn (Fro P ro) n P Q a w := by
  cases dr with
  | false =>
    refine wpIn_region (ops_sound hJ hnm hy (List.range l.toArray.size) l ?_ hN hk hR hQ hp)
    apply List.ext_getElem?
    intro j
    simp only [List.getElem?_map, List.size_toArray, List.getElem?_toArray]
    by_cases hj : j < l.length
    · rw [List.getElem?_range hj]; simp [hj]
    · rw [List.getElem?_eq_none (by simpa using hj), List.getElem?_eq_none (by omega)]; rfl
  | true =>
    refine wpIn_region_any hm (any_sound (C := C) (K := K .normal) hJ hnm (hchk rfl) (by simpa using hN) hy hQ l.toArray.size (Array.replicate l.toArray.size false) (List.range l.toArray.size) (by simp) (List.pairwise_lt_range) (fun i => ?_) (fun k o _ hl => ?_) (by simp) ?_ hR.drawn)
    · rw [rep_getD]
      simp only [List.mem_range, List.size_toArray]
      by_cases hi : i < l.length <;> simp [hi]
    · exfalso
      rw [rep_getD] at hl
      split at hl <;> cases hl
    · have : (List.range l.toArray.size).filterMap (fun i => l.toArray[i]?) = l := by
        simp only [List.size_toArray, List.getElem?_toArray]
        have gen : ∀ (l : List Oper) (k : Nat) (f : Nat → Option Oper), (∀ j, f (k + j) = l[j]?) → (List.range' k l.length).filterMap f = l := by
          intro l
          induction l with
          | nil => intros; rfl
          | cons o l ih =>
            intro k f hf
            have h0 : f k = some o := by simpa using hf 0
            rw [List.length_cons, List.range'_succ, List.filterMap_cons, h0]
            simp only
            rw [ih (k + 1) f (fun j => by have := hf (j + 1); simpa [Nat.add_assoc, Nat.add_comm 1 j] using this)]
        rw [List.range_eq_range']
        exact gen l 0 _ (fun j => by simp)
      rw [this]; exact (opsK_T l).1 hk
theorem region_soundL {K : X → Kt} (hJ : B.it = true → JStep P B) (hnm : B.it = true → B.nm = true) (hm : P.follows .mixedOrders = true) {id : Nat} {l : List Oper} (hchk : chkR l.toArray = true) (hla : lastA l.toArray = true) (hN : ∀ o ∈ l, ∀ i, o.dst = some i → i < N)
    (hk : opsK P C true l.toArray (iniL l) (lstK P C l.toArray (lasL l) K) T H U) (hR : R B N S p T H U a w) {Q : Exit → Act → World → Prop}
    (hQ : ∀ S' p' T' H' U' a' w', K .normal T' H' U' → R B N S' p' T' H' U' a' w' → Q .normal a' w')
    (hp : ∀ d v S' p' T' H' U' a' w', K (.pan d) T' H' U' → R B N S' p' T' H' U' a' w' → Rd S' w' d noPl v → Q (.panic (pch v)) a' w') (hy : ∀ ch S' a' w', B.Jp ch S' w' → a'.defers = [] → Q (.panic ch) a' w') : (Code.region id l.toArray true).wpIn (Fro P ro) n P Q a w := by
  cases hlo : lasL l with
  | none =>
    have := las_none hlo
    subst this
    simp [lastA] at hla
  | some o =>
    have hl := ini_las hlo
    have hlen : l.length = (iniL l).length + 1 := by have := congrArg List.length hl; simpa using this
    generalize iniL l = ini at *
    rw [hlo] at hk
    have hat : l.toArray[ini.length]? = some o := by
      rw [List.getElem?_toArray, hl]; simp
    refine wpIn_region_any hm (any_soundL (C := C) (K := K) (m := ini.length) (ol := o) hJ hnm hchk (by simpa using hN) hy (by simpa using hlen) hat (fun j hj => ?_) hQ hp l.toArray.size (Array.replicate l.toArray.size false) (List.range ini.length) (by simp) List.pairwise_lt_range (fun i hi => List.mem_range.1 hi) (fun i => ?_) (fun k o _ hl => ?_) (by simp; omega) ?_ hR.drawn)
    · have hsz : l.toArray.size = ini.length + 1 := by simpa using hlen
      unfold lastA at hla
      rw [hsz] at hla
      have := List.all_eq_true.1 hla j (List.mem_range.2 hj)
      rwa [hsz]
    · rw [rep_getD]
      simp only [List.mem_append, List.mem_range, List.mem_singleton, List.size_toArray]
      by_cases hi : i < l.length
      · rw [if_pos hi]; simp; omega
      · rw [if_neg hi]; simp; omega
    · exfalso
      rw [rep_getD] at hl
      split at hl <;> cases hl
    · rw [filt_at l ini.length (by omega)]
      have ht : l.take ini.length = ini := by rw [hl]; simp
      rw [ht]
      exact (opsK_T ini).1 hk
end
end Go.Tn
