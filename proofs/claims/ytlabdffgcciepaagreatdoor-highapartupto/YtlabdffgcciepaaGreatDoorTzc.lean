/- Symbolic data, and what the operations do to it. -/
import Derived.Test.YtlabdffgcciepaaGreatDoorTn21
import Derived.Test.YtlabdffgcciepaaGreatDoorTzb
set_option linter.unusedSimpArgs false
set_option linter.unusedVariables false
set_option linter.unusedSectionVars false
namespace Go.Tn
open Go.RowKit
section
variable {P : Program} [Fen P] {C : Spec} {B : Base} [LB P B] {N n : Nat} {ro : Option Nat} {ops : Array Oper} {S : Ex} {p : Pl} {T : Nat → D} {H H0 : Hp} {U : Us} {a : Act} {w : World}
theorem any_tail {k : X → Kt} {m : Nat} (hJ : B.it = true → JStep P B) (hnm : B.it = true → B.nm = true) (hN : ∀ o ∈ ops.toList, ∀ i, o.dst = some i → i < N) {Q : Exit → Act → World → Prop} (hy : ∀ ch S' a' w', B.Jp ch S' w' → a'.defers = [] → Q (.panic ch) a' w')
    (hQ : ∀ e x S p T H U a w, XE S w e x → k e T H U → R B N S p T H U a w → Q x a w)
    (hdp : ∀ i o, ops[i]? = some o → ∀ e ∈ o.after, Region.binds .any e = true → e.on < i) (hanc : ∀ i, m ≤ i → i < ops.size → ∀ j, j < i → anc ops ops.size i j = true) :
    ∀ (d i fuel : Nat) (listed : Array Bool) {S : Ex} {p : Pl} {T : Nat → D} {H : Hp} {U : Us} {a : Act} {w : World},
      i + d = ops.size → m ≤ i → d ≤ fuel → listed.size = ops.size → (∀ j, j < ops.size → (listed.getD j false = true ↔ j < i)) → Closed ops listed → opsK P C false ops (ops.toList.drop i) k T H U → R B N S p T H U a w →
      wpAnyIn (Fro P ro) n P .any ops Q fuel listed a w := by
  intro d
  induction d with
  | zero =>
    intro i fuel listed S p T H U a w hid hmi hf hs hl hc hk hR
    have hi : i = ops.size := by omega
    subst hi
    have hr : Region.ready .any ops listed = [] := by
      cases hr : Region.ready .any ops listed with
      | nil => rfl
      | cons j js =>
        have hj : j ∈ Region.ready .any ops listed := by rw [hr]; simp
        obtain ⟨hun, o, ho, _⟩ := mem_ready.1 hj
        have hjs : j < ops.size := (Array.getElem?_eq_some_iff.1 ho).1
        have h1 := (hl j hjs).2 hjs
        have h2 := (listed_in hun).2
        rw [h1] at h2; cases h2
    rw [List.drop_of_length_le (by simp)] at hk
    have hq : Q .normal a w := hQ .normal _ _ _ _ _ _ _ _ rfl hk hR
    cases fuel with
    | zero => exact ⟨hr, hq⟩
    | succ fuel => exact ⟨fun _ => hq, fun j hj => by rw [hr] at hj; simp at hj⟩
  | succ d ih =>
    intro i fuel listed S p T H U a w hid hmi hf hs hl hc hk hR
    obtain ⟨fuel, rfl⟩ : ∃ f, fuel = f + 1 := ⟨fuel - 1, by omega⟩
    have hi : i < ops.size := by omega
    have ho : ops[i]? = some ops[i] := Array.getElem?_eq_getElem hi
    have hui : listed.getD i true = false := listed_out (by omega) (by
      cases hx : listed.getD i false with
      | false => rfl
      | true => have := (hl i hi).1 hx; omega)
    have hrd : i ∈ Region.ready .any ops listed := mem_ready.2 ⟨hui, _, ho, fun e he hb => (hl e.on (by have := hdp i _ ho e he hb; omega)).2 (hdp i _ ho e he hb)⟩
    refine ⟨fun hr => by rw [hr] at hrd; simp at hrd, fun j hj => ?_⟩
    obtain ⟨hun, o, hoj, hall⟩ := mem_ready.1 hj
    have hjs : j < ops.size := (Array.getElem?_eq_some_iff.1 hoj).1
    have hji : j = i := by
      have h2 := (listed_in hun).2
      rcases Nat.lt_trichotomy j i with h | h | h
      · have := (hl j hjs).2 h; rw [this] at h2; cases h2
      · exact h
      · have h3 := anc_spec hc ops.size j i o hoj hall (hanc j (by omega) hjs i h)
        have h4 := (listed_in hui).2
        rw [h3] at h4; cases h4
    subst hji
    rw [ho] at hoj; cases hoj
    unfold wpOpIn
    rw [ho]
    simp only
    rw [List.drop_eq_getElem_cons (by simpa using hi), Array.getElem_toList] at hk
    have hk : step P C false ops ops[j] (nxt (opsK P C false ops (ops.toList.drop (j + 1)) k) k) T H U := hk
    refine op_sound hJ hR ops[j] (hN _ (by simp)) hk (fun S' p' T' H' U' a' w' hk' hR' => ?_) (fun d v S' p' T' H' U' a' w' hk' hR' hd => ?_) hy
    · refine ih (j + 1) fuel (listed.setIfInBounds j true) (by omega) (by omega) (by omega) (by simpa using hs) (fun q hq => ?_) ?_ hk' hR'
      · by_cases hqj : j = q
        · subst hqj
          have : (listed.setIfInBounds j true).getD j false = true := by simp [Array.getD_eq_getD_getElem?, hs, hi]
          rw [this]; simp
        · rw [getD_set_ne false hqj, hl q hq]; omega
      · intro q oq hoq hql e he hb
        by_cases hqj : j = q
        · subst hqj
          rw [ho] at hoq; cases hoq
          exact getD_set_true (hall e he hb)
        · rw [getD_set_ne false hqj] at hql
          exact getD_set_true (hc q oq hoq hql e he hb)
    · exact hQ (.pan d) _ _ _ _ _ _ _ _ ⟨v, rfl, hd⟩ hk' hR'
theorem any_soundC {K : Kt} {m : Nat} (hJ : B.it = true → JStep P B) (hnm : B.it = true → B.nm = true) (hchk : chkVc ops m = true) (hN : ∀ o ∈ ops.toList, ∀ i, o.dst = some i → i < N) {Q : Exit → Act → World → Prop} (hy : ∀ ch S' a' w', B.Jp ch S' w' → a'.defers = [] → Q (.panic ch) a' w')
    (base : ∀ (fuel : Nat) (listed : Array Bool) {S : Ex} {p : Pl} {T : Nat → D} {Hr : Hp} {U : Us} {a : Act} {w : World}, listed.size = ops.size → (∀ i, i ∈ ([] : List Nat) ↔ listed.getD i true = false ∧ i < m) → (∀ i, m ≤ i → i < ops.size → listed.getD i true = false) → Closed ops listed →
      ops.size - m ≤ fuel → K T Hr U → R B N S p T Hr U a w → wpAnyIn (Fro P ro) n P .any ops Q fuel listed a w) {U0 : Us} :
    ∀ (fuel : Nat) (listed : Array Bool) (L : List Nat) {S : Ex} {p : Pl} {T : Nat → D} {Hr : Hp} {U : Us} {a : Act} {w : World},
      listed.size = ops.size → L.Pairwise (· < ·) → (∀ i, i ∈ L ↔ listed.getD i true = false ∧ i < m) → (∀ i, m ≤ i → i < ops.size → listed.getD i true = false) → Closed ops listed → L.length + (ops.size - m) ≤ fuel → ((L.filterMap fun i => ops[i]?).filter isR = [] ∨ Sub H0 Hr) →
      opsT P C ops ((L.filterMap fun i => ops[i]?).filter isR) (fun T _ _ => opsW P C ops ((L.filterMap fun i => ops[i]?).filter fun o => !isR o) K T Hr U) T H0 U0 → R B N S p T Hr U a w → wpAnyIn (Fro P ro) n P .any ops Q fuel listed a w := by
  obtain ⟨hdp, hcm, hanc⟩ := chkVc_spec hchk
  have hck : ∀ i o, ops[i]? = some o → (∀ e ∈ o.after, Region.binds .any e = true → e.on < i) ∧ ∀ j y, j < i → ops[j]? = some y → i < m → chkVP ops i j o y = true := fun i o ho => ⟨hdp i o ho, fun j y hj hy hi => hcm i o hi ho j y hj hy⟩
  have none_ready : ∀ (listed : Array Bool) (L : List Nat), listed.size = ops.size → L.Pairwise (· < ·) → (∀ i, i ∈ L ↔ listed.getD i true = false ∧ i < m) → Region.ready .any ops listed = [] → L = [] := by
    intro listed L hs hp hL hr
    cases L with
    | nil => rfl
    | cons i L =>
      exfalso
      obtain ⟨hi, him⟩ := (hL i).1 (by simp)
      have hlt := (listed_in hi).1
      rw [hs] at hlt
      have ho : ops[i]? = some ops[i] := Array.getElem?_eq_getElem hlt
      have : i ∈ Region.ready .any ops listed := by
        refine mem_ready.2 ⟨hi, _, ho, fun e he hb => ?_⟩
        have hlt' := (hck i _ ho).1 e he hb
        cases hx : listed.getD e.on false with
        | true => rfl
        | false =>
          have hin := (hL e.on).2 ⟨listed_out (by omega) hx, by omega⟩
          rcases List.mem_cons.1 hin with h | h
          · omega
          · have := (List.pairwise_cons.1 hp).1 _ h
            omega
      rw [hr] at this; simp at this
  intro fuel
  induction fuel with
  | zero =>
    intro listed L S p T Hr U a w hs hp hL htl hc hf hsub hk hR
    have : L = [] := List.length_eq_zero_iff.1 (by omega)
    subst this
    exact base 0 listed hs hL htl hc (by simpa using hf) hk hR
  | succ fuel ih =>
    intro listed L S p T Hr U a w hs hp hL htl hc hf hsub hk hR
    by_cases hLe : L = []
    · subst hLe
      exact base _ listed hs hL htl hc (by simpa using hf) hk hR
    refine ⟨fun hr => absurd (none_ready listed L hs hp hL hr) hLe, fun i hi => ?_⟩
    · obtain ⟨hun, o, ho, hall⟩ := mem_ready.1 hi
      have hisz : i < ops.size := (Array.getElem?_eq_some_iff.1 ho).1
      have him : i < m := by
        refine Nat.lt_of_not_le fun hmi => ?_
        obtain ⟨l0, L', rfl⟩ := List.exists_cons_of_ne_nil hLe
        obtain ⟨h1, h2⟩ := (hL l0).1 (by simp)
        have h3 := anc_spec hc ops.size i l0 o ho hall (hanc i hmi hisz l0 (by omega))
        have h4 := (listed_in h1).2
        rw [h3] at h4; cases h4
      have hin := (hL i).2 ⟨hun, him⟩
      have hmem : o ∈ ops.toList := by rw [Array.mem_toList_iff]; exact Array.mem_of_getElem? ho
      obtain ⟨L1, L2, rfl⟩ := List.append_of_mem hin
      have hpw := List.pairwise_append.1 hp
      have unl : ∀ {j}, j ∈ L1 ++ i :: L2 → anc ops ops.size i j = true → False := fun {j} hj h => by
        have h1 := anc_spec hc ops.size i j o ho hall h
        have h2 := (listed_in ((hL j).1 hj).1).2
        rw [h1] at h2; cases h2
      have hsize : i < listed.size := (listed_in hun).1
      have next : ∀ {S' p' T' U' a' w'} {Hr' : Hp}, (((L1 ++ L2).filterMap fun i => ops[i]?).filter isR = [] ∨ Sub H0 Hr') → opsT P C ops (((L1 ++ L2).filterMap fun i => ops[i]?).filter isR) (fun T _ _ => opsW P C ops (((L1 ++ L2).filterMap fun i => ops[i]?).filter fun o => !isR o) K T Hr' U') T' H0 U0 →
          R B N S' p' T' Hr' U' a' w' → wpAnyIn (Fro P ro) n P .any ops Q fuel (listed.setIfInBounds i true) a' w' := by
        intro S' p' T' U' a' w' Hr' ha' hk' hR'
        refine ih (listed.setIfInBounds i true) (L1 ++ L2) (by simpa using hs) ?_ (fun j => ?_) (fun q hq1 hq2 => by rw [getD_set_ne true (by omega)]; exact htl q hq1 hq2) ?_ ?_ ha' hk' hR'
        · exact List.pairwise_append.2 ⟨hpw.1, (List.pairwise_cons.1 hpw.2.1).2, fun a ha b hb => hpw.2.2 a ha b (by simp [hb])⟩
        · by_cases hji : i = j
          · subst hji
            have h1 : (listed.setIfInBounds i true).getD i true = true := by simp [Array.getD_eq_getD_getElem?, hsize]
            rw [h1]
            constructor
            · intro h
              exfalso
              rcases List.mem_append.1 h with h | h
              · have := hpw.2.2 i h i (by simp); omega
              · have := (List.pairwise_cons.1 hpw.2.1).1 i h; omega
            · intro h; cases h.1
          · rw [getD_set_ne true hji, ← hL j]
            simp only [List.mem_append, List.mem_cons]
            constructor
            · rintro (h | h)
              · exact .inl h
              · exact .inr (.inr h)
            · rintro (h | h | h)
              · exact .inl h
              · exact absurd h.symm hji
              · exact .inr h
        · intro k ok hok hkl e he hb
          by_cases hki : i = k
          · subst hki
            rw [ho] at hok; cases hok
            exact getD_set_true (hall e he hb)
          · rw [getD_set_ne false hki] at hkl
            exact getD_set_true (hc k ok hok hkl e he hb)
        · simp only [List.length_append, List.length_cons] at hf ⊢; omega
      rw [List.filterMap_append, List.filterMap_cons, ho] at hk hsub
      unfold wpOpIn
      rw [ho]
      simp only
      have fin : ∀ {r : Act4}, act P C ops o T Hr U = some r → r.1 → (((L1 ++ L2).filterMap fun i => ops[i]?).filter isR = [] ∨ Sub H0 r.2.2.1) →
          opsT P C ops (((L1 ++ L2).filterMap fun i => ops[i]?).filter isR) (fun T _ _ => opsW P C ops (((L1 ++ L2).filterMap fun i => ops[i]?).filter fun o => !isR o) K T r.2.2.1 r.2.2.2) (putO T o.dst r.2.1) H0 U0 →
          if Region.wanted o (yielded ops a.tmps) = true then o.wpIn (Fro P ro) n P a w (fun a' w' => wpAnyIn (Fro P ro) n P .any ops Q fuel (listed.setIfInBounds i true) a' w') Q else (∀ f, o.about P w a.eval = some f → (Fro P ro).fn f) ∧ wpAnyIn (Fro P ro) n P .any ops Q fuel (listed.setIfInBounds i true) (a.put o.dst undef) w := by
        intro r e hc' ha' hk'
        have hst : stepT P C ops o (fun T' H' U' => T' = putO T o.dst r.2.1 ∧ H' = r.2.2.1 ∧ U' = r.2.2.2) T Hr U := step_act.2 ⟨_, e, hc', rfl, rfl, rfl⟩
        refine op_sound hJ hR o (hN o hmem) hst (fun S' p' T' H' U' a' w' hk2 hR' => ?_) (fun _ _ _ _ _ _ _ _ _ hk' => hk'.elim) hy
        obtain ⟨rfl, rfl, rfl⟩ : T' = putO T o.dst r.2.1 ∧ H' = r.2.2.1 ∧ U' = r.2.2.2 := hk2
        exact next ha' hk' hR'
      cases hw : isR o with
      | true =>
        have hcl : clO o.op = 0 := by simpa [isR] using hw
        rw [List.filter_append, List.filter_cons, List.filter_append, List.filter_cons, hw] at hk
        rw [List.filter_append, List.filter_cons, hw] at hsub
        simp only [Bool.not_true, if_true, Bool.false_eq_true, if_false] at hk hsub
        have hsub' : Sub H0 Hr := hsub.resolve_left (by simp)
        have hk2 := bubble (x := o) (L1 := (L1.filterMap fun i => ops[i]?).filter isR) (L2 := (L2.filterMap fun i => ops[i]?).filter isR) (fun y hy => by
          obtain ⟨hy, hyw⟩ := List.mem_filter.1 hy
          obtain ⟨j, hj, hjy⟩ := List.mem_filterMap.1 hy
          have hlt : j < i := hpw.2.2 j hj i (by simp)
          have h := (hck i o ho).2 j y hlt hjy him
          simp only [chkVP, hyw, hw, Bool.or_eq_true] at h
          rcases h with h | h
          · exact h
          · exact (unl (by simp [hj]) h).elim) hk
        simp only [opsT] at hk2
        rw [step_act] at hk2
        obtain ⟨r, h1, h2, h3⟩ := hk2
        obtain ⟨e1, e2⟩ := act_read (cl0_klass hcl) h1
        rw [e1, e2] at h3
        obtain ⟨c', e, hc'⟩ := act_more (U := U) hcl hsub' h1 h2
        refine fin (r := (c', r.2.1, Hr, U)) e hc' (.inr hsub') ?_
        rw [List.filterMap_append, List.filter_append, List.filter_append]
        exact h3
      | false =>
        rw [List.filter_append, List.filter_cons, List.filter_append, List.filter_cons, hw] at hk
        rw [List.filter_append, List.filter_cons, hw] at hsub
        simp only [Bool.not_false, if_true, Bool.false_eq_true, if_false] at hk hsub
        have hW1 : (L1.filterMap fun i => ops[i]?).filter (fun o => !isR o) = [] := by
          rw [List.filter_eq_nil_iff]
          intro y hy hyw
          obtain ⟨j, hj, hjy⟩ := List.mem_filterMap.1 hy
          have hlt : j < i := hpw.2.2 j hj i (by simp)
          have h := (hck i o ho).2 j y hlt hjy him
          simp only [Bool.not_eq_true'] at hyw
          simp only [chkVP, hyw, hw] at h
          exact unl (by simp [hj]) h
        rw [hW1, List.nil_append] at hk
        have hR1 : clO o.op ≠ 1 → ((L1 ++ L2).filterMap fun i => ops[i]?).filter isR = [] := fun hne => by
          rw [List.filter_eq_nil_iff]
          intro y hy hyw
          rw [List.filterMap_append] at hy
          rcases List.mem_append.1 hy with hy | hy
          · obtain ⟨j, hj, hjy⟩ := List.mem_filterMap.1 hy
            have hlt : j < i := hpw.2.2 j hj i (by simp)
            have h := (hck i o ho).2 j y hlt hjy him
            simp only [chkVP, hyw, hw, Bool.or_eq_true, Bool.and_eq_true, Nat.beq_eq] at h
            rcases h with h | h
            · exact hne h.2
            · exact unl (by simp [hj]) h
          · obtain ⟨j, hj, hjy⟩ := List.mem_filterMap.1 hy
            have hlt : i < j := (List.pairwise_cons.1 hpw.2.1).1 j hj
            have h := (hck j y hjy).2 i o hlt ho ((hL j).1 (by simp [hj])).2
            simp only [chkVP, hyw, hw, Bool.and_eq_true, Nat.beq_eq] at h
            exact hne h.2
        obtain ⟨r, h1, h2, h4, h3⟩ := pullW (x := o) (fun y hy => by
          rcases List.mem_append.1 hy with hy | hy
          · obtain ⟨hy, hyw⟩ := List.mem_filter.1 hy
            obtain ⟨j, hj, hjy⟩ := List.mem_filterMap.1 hy
            have hlt : j < i := hpw.2.2 j hj i (by simp)
            have h := (hck i o ho).2 j y hlt hjy him
            simp only [chkVP, hyw, hw, Bool.or_eq_true, Bool.and_eq_true] at h
            rcases h with h | h
            · exact h.1.2
            · exact (unl (by simp [hj]) h).elim
          · obtain ⟨hy, hyw⟩ := List.mem_filter.1 hy
            obtain ⟨j, hj, hjy⟩ := List.mem_filterMap.1 hy
            have hlt : i < j := (List.pairwise_cons.1 hpw.2.1).1 j hj
            have h := (hck j y hjy).2 i o hlt ho ((hL j).1 (by simp [hj])).2
            simp only [chkVP, hyw, hw, Bool.and_eq_true] at h
            exact h.1.1) hk
        refine fin h1 h2 ?_ ?_
        · by_cases he : clO o.op = 1
          · rcases hsub with h | h
            · left
              rw [List.filterMap_append, List.filter_append]
              exact h
            · exact .inr fun i o' hi => h4 he i o' (h i o' hi)
          · exact .inl (hR1 he)
        · rw [List.filterMap_append, List.filter_append, List.filter_append, hW1, List.nil_append]
          exact h3
theorem region_soundC {k : X → Kt} {m : Nat} (hJ : B.it = true → JStep P B) (hnm : B.it = true → B.nm = true) (hm : P.follows .mixedOrders = true) {id : Nat} {l : List Oper} (hms : m ≤ l.length) (hchk : chkVc l.toArray m = true) (hN : ∀ o ∈ l, ∀ i, o.dst = some i → i < N)
    (hk : opsK P C true l.toArray (fV (l.take m)) (nK (opsW P C l.toArray (fU (l.take m)) (fun T H U => opsK P C false l.toArray (l.drop m) k T H U))) T H U) (hR : R B N S p T H U a w) {Q : Exit → Act → World → Prop}
    (hQ : ∀ e x S p T H U a w, XE S w e x → k e T H U → R B N S p T H U a w → Q x a w) (hy : ∀ ch S' a' w', B.Jp ch S' w' → a'.defers = [] → Q (.panic ch) a' w') : (Code.region id l.toArray true).wpIn (Fro P ro) n P Q a w := by
  have hl : (List.range m).filterMap (fun i => l.toArray[i]?) = l.take m := filt_at l m hms
  have hN' : ∀ o ∈ l.toArray.toList, ∀ i, o.dst = some i → i < N := by simpa using hN
  refine wpIn_region_any hm (any_soundC (C := C) (K := fun T H U => opsK P C false l.toArray (l.drop m) k T H U) (m := m) (H0 := H) (U0 := U) hJ hnm hchk hN' hy (fun fuel listed S p T Hr U a w hs hL htl hc hf hk hR => ?_) l.toArray.size (Array.replicate l.toArray.size false) (List.range m) (by simp) (List.pairwise_lt_range) (fun i => ?_) (fun i h1 h2 => ?_) (fun k o _ hl => ?_) (by simp; omega) (U := U) (.inr fun _ _ h => h) ?_ hR.drawn)
  · obtain ⟨hdp, hcm, hanc⟩ := chkVc_spec hchk
    refine any_tail (k := k) (m := m) hJ hnm hN' hy hQ hdp hanc (l.toArray.size - m) m fuel listed (by simp; omega) (Nat.le_refl _) hf hs (fun j hj => ?_) hc (by simpa using hk) hR
    constructor
    · intro h
      by_cases hjm : j < m
      · exact hjm
      · have := htl j (by omega) hj
        have h2 := (listed_in this).2
        rw [h] at h2; cases h2
    · intro hjm
      cases hx : listed.getD j false with
      | true => rfl
      | false =>
        have := (hL j).2 ⟨listed_out (by omega) hx, hjm⟩
        simp at this
  · rw [rep_getD]
    simp only [List.mem_range, List.size_toArray]
    by_cases hi : i < l.length
    · simp [hi]
    · simp [hi]; omega
  · rw [rep_getD]; simp at h2; simp [h2]
  · exfalso
    rw [rep_getD] at hl
    split at hl <;> cases hl
  · rw [hl, ← fV_eq, ← fU_eq]
    have h1 := (opsK_T (fV (l.take m))).1 hk
    generalize l = l0 at hk h1 ⊢
    have hkeep : ∀ {l : List Oper} {T : Nat → D}, (∀ o ∈ l, isR o = true) → ∀ {K : Kt}, opsT P C l0.toArray l K T H U → opsT P C l0.toArray l (fun T _ _ => K T H U) T H U := by
      intro l
      induction l with
      | nil => intro T _ K h; exact h
      | cons o l ih =>
        intro T hr K h
        simp only [opsT] at h ⊢
        rw [step_act] at h ⊢
        obtain ⟨r, h1, h2, h3⟩ := h
        obtain ⟨e1, e2⟩ := act_read (cl0_klass (by simpa [isR] using hr o (by simp))) h1
        refine ⟨r, h1, h2, ?_⟩
        rw [e1, e2] at h3 ⊢
        exact ih (fun o ho => hr o (by simp [ho])) h3
    have hf : ∀ o ∈ fV (l0.take m), isR o = true := fun o ho => by rw [fV_eq] at ho; exact (List.mem_filter.1 ho).2
    exact hkeep hf h1
theorem any_soundD {K : Kt} {m : Nat} (hJ : B.it = true → JStep P B) (hnm : B.it = true → B.nm = true) (hchk : chkZc ops m = true) (hN : ∀ o ∈ ops.toList, ∀ i, o.dst = some i → i < N) {Q : Exit → Act → World → Prop} (hy : ∀ ch S' a' w', B.Jp ch S' w' → a'.defers = [] → Q (.panic ch) a' w')
    (base : ∀ (fuel : Nat) (listed : Array Bool) {S : Ex} {p : Pl} {T : Nat → D} {Hr : Hp} {U : Us} {a : Act} {w : World}, listed.size = ops.size → (∀ i, i ∈ ([] : List Nat) ↔ listed.getD i true = false ∧ i < m) → (∀ i, m ≤ i → i < ops.size → listed.getD i true = false) → Closed ops listed →
      ops.size - m ≤ fuel → K T Hr U → R B N S p T Hr U a w → wpAnyIn (Fro P ro) n P .any ops Q fuel listed a w) (hfr : ∀ o ∈ ops.toList.take m, wOp o.op = true → ∀ i, o.dst = some i → H0 i = none) {U0 : Us} :
    ∀ (fuel : Nat) (listed : Array Bool) (L : List Nat) {S : Ex} {p : Pl} {T : Nat → D} {Hw : Hp} {U : Us} {a : Act} {w : World},
      listed.size = ops.size → L.Pairwise (· < ·) → (∀ i, i ∈ L ↔ listed.getD i true = false ∧ i < m) → (∀ i, m ≤ i → i < ops.size → listed.getD i true = false) → Closed ops listed → L.length + (ops.size - m) ≤ fuel → Apt H0 Hw →
      opsT P C ops ((L.filterMap fun i => ops[i]?).filter fun o => !wOp o.op) (zK P C ops K ((L.filterMap fun i => ops[i]?).filter fun o => wOp o.op) H0 Hw U) T H0 U0 → R B N S p T (ovl H0 Hw) U a w → wpAnyIn (Fro P ro) n P .any ops Q fuel listed a w := by
  obtain ⟨hdp, hcm, hanc⟩ := chkZc_spec hchk
  have hck : ∀ i o, ops[i]? = some o → (i < m → (dOp o.op = true ∨ wOp o.op = true)) ∧ (∀ e ∈ o.after, Region.binds .any e = true → e.on < i) ∧ ∀ j y, j < i → ops[j]? = some y → i < m → chkZP ops i j o y = true := fun i o ho => ⟨fun hi => (hcm i o hi ho).1, hdp i o ho, fun j y hj hy hi => (hcm i o hi ho).2 j y hj hy⟩
  have none_ready : ∀ (listed : Array Bool) (L : List Nat), listed.size = ops.size → L.Pairwise (· < ·) → (∀ i, i ∈ L ↔ listed.getD i true = false ∧ i < m) → Region.ready .any ops listed = [] → L = [] := by
    intro listed L hs hp hL hr
    cases L with
    | nil => rfl
    | cons i L =>
      exfalso
      obtain ⟨hi, him⟩ := (hL i).1 (by simp)
      have hlt := (listed_in hi).1
      rw [hs] at hlt
      have ho : ops[i]? = some ops[i] := Array.getElem?_eq_getElem hlt
      have : i ∈ Region.ready .any ops listed := by
        refine mem_ready.2 ⟨hi, _, ho, fun e he hb => ?_⟩
        have hlt' := (hck i _ ho).2.1 e he hb
        cases hx : listed.getD e.on false with
        | true => rfl
        | false =>
          have hin := (hL e.on).2 ⟨listed_out (by omega) hx, by omega⟩
          rcases List.mem_cons.1 hin with h | h
          · omega
          · have := (List.pairwise_cons.1 hp).1 _ h
            omega
      rw [hr] at this; simp at this
  intro fuel
  induction fuel with
  | zero =>
    intro listed L S p T Hw U a w hs hp hL htl hc hf ha hk hR
    have : L = [] := List.length_eq_zero_iff.1 (by omega)
    subst this
    exact base 0 listed hs hL htl hc (by simpa using hf) hk hR
  | succ fuel ih =>
    intro listed L S p T Hw U a w hs hp hL htl hc hf ha hk hR
    by_cases hLe : L = []
    · subst hLe
      exact base _ listed hs hL htl hc (by simpa using hf) hk hR
    refine ⟨fun hr => absurd (none_ready listed L hs hp hL hr) hLe, fun i hi => ?_⟩
    · obtain ⟨hun, o, ho, hall⟩ := mem_ready.1 hi
      have hisz : i < ops.size := (Array.getElem?_eq_some_iff.1 ho).1
      have him : i < m := by
        refine Nat.lt_of_not_le fun hmi => ?_
        obtain ⟨l0, L', rfl⟩ := List.exists_cons_of_ne_nil hLe
        obtain ⟨h1, h2⟩ := (hL l0).1 (by simp)
        have h3 := anc_spec hc ops.size i l0 o ho hall (hanc i hmi hisz l0 (by omega))
        have h4 := (listed_in h1).2
        rw [h3] at h4; cases h4
      have hin := (hL i).2 ⟨hun, him⟩
      have hmem : o ∈ ops.toList := by rw [Array.mem_toList_iff]; exact Array.mem_of_getElem? ho
      obtain ⟨L1, L2, rfl⟩ := List.append_of_mem hin
      have hpw := List.pairwise_append.1 hp
      have unl : ∀ {j}, j ∈ L1 ++ i :: L2 → anc ops ops.size i j = true → False := fun {j} hj h => by
        have h1 := anc_spec hc ops.size i j o ho hall h
        have h2 := (listed_in ((hL j).1 hj).1).2
        rw [h1] at h2; cases h2
      have hsize : i < listed.size := (listed_in hun).1
      have next : ∀ {S' p' T' U' a' w'} {Hw' : Hp}, Apt H0 Hw' → opsT P C ops (((L1 ++ L2).filterMap fun i => ops[i]?).filter fun o => !wOp o.op) (zK P C ops K (((L1 ++ L2).filterMap fun i => ops[i]?).filter fun o => wOp o.op) H0 Hw' U') T' H0 U0 →
          R B N S' p' T' (ovl H0 Hw') U' a' w' → wpAnyIn (Fro P ro) n P .any ops Q fuel (listed.setIfInBounds i true) a' w' := by
        intro S' p' T' U' a' w' Hw' ha' hk' hR'
        refine ih (listed.setIfInBounds i true) (L1 ++ L2) (by simpa using hs) ?_ (fun j => ?_) (fun q hq1 hq2 => by rw [getD_set_ne true (by omega)]; exact htl q hq1 hq2) ?_ ?_ ha' hk' hR'
        · exact List.pairwise_append.2 ⟨hpw.1, (List.pairwise_cons.1 hpw.2.1).2, fun a ha b hb => hpw.2.2 a ha b (by simp [hb])⟩
        · by_cases hji : i = j
          · subst hji
            have h1 : (listed.setIfInBounds i true).getD i true = true := by simp [Array.getD_eq_getD_getElem?, hsize]
            rw [h1]
            constructor
            · intro h
              exfalso
              rcases List.mem_append.1 h with h | h
              · have := hpw.2.2 i h i (by simp); omega
              · have := (List.pairwise_cons.1 hpw.2.1).1 i h; omega
            · intro h; cases h.1
          · rw [getD_set_ne true hji, ← hL j]
            simp only [List.mem_append, List.mem_cons]
            constructor
            · rintro (h | h)
              · exact .inl h
              · exact .inr (.inr h)
            · rintro (h | h | h)
              · exact .inl h
              · exact absurd h.symm hji
              · exact .inr h
        · intro k ok hok hkl e he hb
          by_cases hki : i = k
          · subst hki
            rw [ho] at hok; cases hok
            exact getD_set_true (hall e he hb)
          · rw [getD_set_ne false hki] at hkl
            exact getD_set_true (hc k ok hok hkl e he hb)
        · simp only [List.length_append, List.length_cons] at hf ⊢; omega
      rw [List.filterMap_append, List.filterMap_cons, ho] at hk
      unfold wpOpIn
      rw [ho]
      simp only
      have fin : ∀ {r : Act4} {c' : Prop} {Hw' : Hp}, act P C ops o T (ovl H0 Hw) U = some (c', r.2.1, ovl H0 Hw', r.2.2.2) → c' → Apt H0 Hw' →
          opsT P C ops (((L1 ++ L2).filterMap fun i => ops[i]?).filter fun o => !wOp o.op) (zK P C ops K (((L1 ++ L2).filterMap fun i => ops[i]?).filter fun o => wOp o.op) H0 Hw' r.2.2.2) (putO T o.dst r.2.1) H0 U0 →
          if Region.wanted o (yielded ops a.tmps) = true then o.wpIn (Fro P ro) n P a w (fun a' w' => wpAnyIn (Fro P ro) n P .any ops Q fuel (listed.setIfInBounds i true) a' w') Q else (∀ f, o.about P w a.eval = some f → (Fro P ro).fn f) ∧ wpAnyIn (Fro P ro) n P .any ops Q fuel (listed.setIfInBounds i true) (a.put o.dst undef) w := by
        intro r c' Hw' e hc' ha' hk'
        have hst : stepT P C ops o (fun T' H' U' => T' = putO T o.dst r.2.1 ∧ H' = ovl H0 Hw' ∧ U' = r.2.2.2) T (ovl H0 Hw) U := step_act.2 ⟨_, e, hc', rfl, rfl, rfl⟩
        refine op_sound hJ hR o (hN o hmem) hst (fun S' p' T' H' U' a' w' hk2 hR' => ?_) (fun _ _ _ _ _ _ _ _ _ hk' => hk'.elim) hy
        obtain ⟨rfl, rfl, rfl⟩ : T' = putO T o.dst r.2.1 ∧ H' = ovl H0 Hw' ∧ U' = r.2.2.2 := hk2
        exact next ha' hk' hR'
      cases hw : wOp o.op with
      | false =>
        have hr : dOp o.op = true := ((hck i o ho).1 him).resolve_right (by rw [hw]; simp)
        rw [List.filter_append, List.filter_cons, List.filter_append, List.filter_cons, hw] at hk
        simp only [Bool.not_false, if_true, Bool.false_eq_true, if_false] at hk
        have hk2 := bubble (x := o) (L1 := (L1.filterMap fun i => ops[i]?).filter fun o => !wOp o.op) (L2 := (L2.filterMap fun i => ops[i]?).filter fun o => !wOp o.op) (fun y hy => by
          obtain ⟨hy, hyw⟩ := List.mem_filter.1 hy
          obtain ⟨j, hj, hjy⟩ := List.mem_filterMap.1 hy
          have hlt : j < i := hpw.2.2 j hj i (by simp)
          have h := (hck i o ho).2.2 j y hlt hjy him
          simp only [Bool.not_eq_true'] at hyw
          simp only [chkZP, hyw, hw, Bool.or_eq_true] at h
          rcases h with h | h
          · exact h
          · exact (unl (by simp [hj]) h).elim) hk
        simp only [opsT] at hk2
        rw [step_act] at hk2
        obtain ⟨r, h1, h2, h3⟩ := hk2
        obtain ⟨e1, e2⟩ := act_read (dOp_klass hr) h1
        rw [e1, e2] at h3
        obtain ⟨c', e, hc'⟩ := act_readD (U := U) hr ha h1 h2
        refine fin (r := (c', r.2.1, H0, U)) e hc' ha ?_
        rw [List.filterMap_append, List.filter_append, List.filter_append]
        exact h3
      | true =>
        rw [List.filter_append, List.filter_cons, List.filter_append, List.filter_cons, hw] at hk
        simp only [Bool.not_true, if_true, Bool.false_eq_true, if_false] at hk
        have hW1 : (L1.filterMap fun i => ops[i]?).filter (fun o => wOp o.op) = [] := by
          rw [List.filter_eq_nil_iff]
          intro y hy hyw
          obtain ⟨j, hj, hjy⟩ := List.mem_filterMap.1 hy
          have hlt : j < i := hpw.2.2 j hj i (by simp)
          have h := (hck i o ho).2.2 j y hlt hjy him
          simp only [chkZP, hyw, hw] at h
          exact unl (by simp [hj]) h
        rw [hW1, List.nil_append] at hk
        obtain ⟨r, h1, h2, h3⟩ := pull (x := o) (fun y hy => by
          rcases List.mem_append.1 hy with hy | hy
          · obtain ⟨hy, hyw⟩ := List.mem_filter.1 hy
            obtain ⟨j, hj, hjy⟩ := List.mem_filterMap.1 hy
            have hlt : j < i := hpw.2.2 j hj i (by simp)
            have h := (hck i o ho).2.2 j y hlt hjy him
            simp only [Bool.not_eq_true'] at hyw
            simp only [chkZP, hyw, hw, Bool.or_eq_true] at h
            rcases h with h | h
            · exact h
            · exact (unl (by simp [hj]) h).elim
          · obtain ⟨hy, hyw⟩ := List.mem_filter.1 hy
            obtain ⟨j, hj, hjy⟩ := List.mem_filterMap.1 hy
            have hlt : i < j := (List.pairwise_cons.1 hpw.2.1).1 j hj
            have h := (hck j y hjy).2.2 i o hlt ho ((hL j).1 (by simp [hj])).2
            simp only [Bool.not_eq_true'] at hyw
            simp only [chkZP, hyw, hw] at h
            exact h) hk
        obtain ⟨⟨c', e, hc'⟩, hn⟩ := act_writeZ (H0 := H0) hw h1 h2
        refine fin (r := r) e hc' (fun j hj => ?_) ?_
        · rcases hn j hj with h | h
          · exact ha j h
          · exact hfr o (List.mem_take_iff_getElem.2 ⟨i, by simp; omega, by rw [Array.getElem_toList]; exact (Array.getElem?_eq_some_iff.1 ho).2⟩) hw j h
        · rw [List.filterMap_append, List.filter_append, List.filter_append, hW1, List.nil_append]
          exact h3
theorem region_soundD {k : X → Kt} {m : Nat} {K : List Nat} (hJ : B.it = true → JStep P B) (hnm : B.it = true → B.nm = true) (hm : P.follows .mixedOrders = true) {id : Nat} {l : List Oper} (hms : m ≤ l.length) (hchk : chkZc l.toArray m = true) (hN : ∀ o ∈ l, ∀ i, o.dst = some i → i < N)
    (hf : frsZ (rmv K H) (l.take m)) (hk : opsK P C true l.toArray (fR (l.take m)) (zvK P C l.toArray (l.take m) (kee K H) (nK (fun T H U => opsK P C false l.toArray (l.drop m) k T H U))) T (rmv K H) U) (hR : R B N S p T H U a w) {Q : Exit → Act → World → Prop}
    (hQ : ∀ e x S p T H U a w, XE S w e x → k e T H U → R B N S p T H U a w → Q x a w) (hy : ∀ ch S' a' w', B.Jp ch S' w' → a'.defers = [] → Q (.panic ch) a' w') : (Code.region id l.toArray true).wpIn (Fro P ro) n P Q a w := by
  have hl : (List.range m).filterMap (fun i => l.toArray[i]?) = l.take m := filt_at l m hms
  have hN' : ∀ o ∈ l.toArray.toList, ∀ i, o.dst = some i → i < N := by simpa using hN
  have hall : ∀ o ∈ l.take m, wOp o.op = false → dOp o.op = true := fun o ho hw => by
    obtain ⟨i, hi, e⟩ := List.mem_take_iff_getElem.1 ho
    have := ((chkZc_spec hchk).2.1 i o (by omega) (by rw [List.getElem?_toArray, List.getElem?_eq_getElem (by omega), e])).1
    exact this.resolve_right (by rw [hw]; simp)
  refine wpIn_region_any hm (any_soundD (C := C) (K := fun T H U => opsK P C false l.toArray (l.drop m) k T H U) (m := m) (H0 := rmv K H) (U0 := U) hJ hnm hchk hN' hy (fun fuel listed S p T Hr U a w hs hL htl hc hf hk hR => ?_) (fun o ho hw i hi => frsZ_at hf o (by simpa using ho) hw i hi) l.toArray.size (Array.replicate l.toArray.size false) (List.range m) (by simp) (List.pairwise_lt_range) (fun i => ?_) (fun i h1 h2 => ?_) (fun k o _ hl => ?_) (by simp; omega) (Hw := kee K H) (U := U) apt_rmv ?_ (by rw [ovl_rmv]; exact hR.drawn))
  · obtain ⟨hdp, hcm, hanc⟩ := chkZc_spec hchk
    refine any_tail (k := k) (m := m) hJ hnm hN' hy hQ hdp hanc (l.toArray.size - m) m fuel listed (by simp; omega) (Nat.le_refl _) hf hs (fun j hj => ?_) hc (by simpa using hk) hR
    constructor
    · intro h
      by_cases hjm : j < m
      · exact hjm
      · have := htl j (by omega) hj
        have h2 := (listed_in this).2
        rw [h] at h2; cases h2
    · intro hjm
      cases hx : listed.getD j false with
      | true => rfl
      | false =>
        have := (hL j).2 ⟨listed_out (by omega) hx, hjm⟩
        simp at this
  · rw [rep_getD]
    simp only [List.mem_range, List.size_toArray]
    by_cases hi : i < l.length
    · simp [hi]
    · simp [hi]; omega
  · rw [rep_getD]; simp at h2; simp [h2]
  · exfalso
    rw [rep_getD] at hl
    split at hl <;> cases hl
  · rw [hl, ← fR_eq, ← fW_eq]
    have h1 := (opsK_T (fR (l.take m))).1 hk
    have h2 := opsT_keepD (fun o ho => by
      rw [fR_eq] at ho
      obtain ⟨h1, h2⟩ := List.mem_filter.1 ho
      exact hall o h1 (by simpa using h2)) h1
    refine opsT_mono (fun T' H' U' h => ?_) h2
    obtain ⟨rfl, rfl, h⟩ := h
    exact (opsK_T (fW (l.take m))).1 h
end
end Go.Tn
