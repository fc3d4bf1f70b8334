/- Symbolic data, and what the operations do to it. -/
import Derived.Test.YtlabdffgcciepaaGreatDoorTn18
set_option linter.unusedSimpArgs false
set_option linter.unusedVariables false
set_option linter.unusedSectionVars false
namespace Go.Tn
open Go.RowKit
section
variable {P : Program} [Fen P] {C : Spec} {ops : Array Oper} {T T' : Nat → D} {H H' : Hp} {U U' : Us} {K K' : Kt} {x y o : Oper}
theorem evs_congr : ∀ {l : List Operand}, (∀ x ∈ l, ev T x = ev T' x) → evs T l = evs T' l
  | [], _ => rfl
  | x :: l, h => by simp only [evs]; rw [h x (by simp), evs_congr fun x hx => h x (by simp [hx])]
theorem evp_congr : ∀ {l : List (Nat × Operand)}, (∀ x ∈ l.map (·.2), ev T x = ev T' x) → evp T l = evp T' l
  | [], _ => rfl
  | (i, x) :: l, h => by
    simp only [evp]
    rw [h x (by simp), evp_congr fun x hx => h x (by
      simp only [List.map_cons, List.mem_cons]; exact .inr hx)]
theorem evo_congr {l : Option Operand} (h : ∀ x, l = some x → ev T x = ev T' x) : evo T l = evo T' l := by
  cases l with
  | none => rfl
  | some x => simp only [evo]; rw [h x rfl]
theorem res_congr (o : Op) (dst : Option Nat) (h : ∀ x ∈ o.operands.toList, ev T x = ev T' x) : res P o dst T H U = res P o dst T' H U := by
  cases o <;> simp only [Op.operands] at h <;> try rfl
  case move x => simp only [res]; rw [h x (by simp)]
  case assign x => simp only [res]; rw [h x (by simp)]
  case pick c a b => simp only [res]; rw [h c (by simp), h a (by simp), h b (by simp)]
  case box t x => simp only [res]; rw [h x (by simp)]
  case build t ps => simp only [res]; rw [evp_congr (fun x hx => h x (by simpa using hx))]
  case buildSlice t n ps => simp only [res]; rw [evp_congr (fun x hx => h x (by simpa using hx))]
  case load t x => simp only [res]; rw [h x (by simp)]
  case store t x y => simp only [res]; rw [h x (by simp), h y (by simp)]
  case binOp op t x y _ => simp only [res]; rw [h x (by simp), h y (by simp)]
  case unOp op t x => cases op <;> first | rfl | (simp only [res]; rw [h x (by simp)])
  case makeFunc fn a b =>
    cases fn <;> try rfl
    simp only [res]; rw [evs_congr (l := a.toList) (fun x hx => h x (by simp at hx ⊢; exact .inl hx)), evs_congr (l := b.toList) (fun x hx => h x (by simp at hx ⊢; exact .inr hx))]
  case makeMap t r => cases r <;> rfl
  case makeSlice t l c => simp only [res]; rw [h l (by simp), h c (by simp)]
  case slice t x l hi m =>
    simp only [res]
    rw [h x (by simp), evo_congr (l := l) (fun y hy => h y (by subst hy; simp)), evo_congr (l := hi) (fun y hy => h y (by subst hy; simp)), evo_congr (l := m) (fun y hy => h y (by subst hy; simp))]
  case fieldAddr t x f => simp only [res]; rw [h x (by simp)]
  case field t x f => simp only [res]; rw [h x (by simp)]
  case indexAddr t x i => simp only [res]; rw [h x (by simp), h i (by simp)]
  case index t x i => simp only [res]; rw [h x (by simp), h i (by simp)]
  case lookup t x i ok => simp only [res]; rw [h x (by simp), h i (by simp)]
  case mapUpdate t m k v => simp only [res]; rw [h m (by simp), h k (by simp), h v (by simp)]
  case extract x k => simp only [res]; rw [h x (by simp)]
  case convert t t' x => simp only [res]; rw [h x (by simp)]
  case makeInterface t x => simp only [res]; rw [h x (by simp)]
  case panic x => simp only [res]; rw [h x (by simp)]
  case typeAssert x _ _ _ => simp only [res]; rw [h x (by simp)]
  case nilCheck x => simp only [res]; rw [h x (by simp)]
  case mapEntry t m k => simp only [res]; rw [h m (by simp), h k (by simp)]
  case entryStore t m s x => simp only [res]; rw [h m (by simp), h s (by simp), h x (by simp)]
  case call c =>
    obtain ⟨callee, args, tys⟩ := c
    simp only [Call.operands] at h
    cases callee with
    | value f => simp only [res]; rw [h f (by simp), evs_congr (l := args.toList) (fun x hx => h x (by simp at hx ⊢; exact .inr hx))]
    | builtin b => simp only [res]; rw [evs_congr (l := args.toList) (fun x hx => h x (by simpa using hx))]
    | invoke f _ => simp only [res]; rw [h f (by simp), evs_congr (l := args.toList) (fun x hx => h x (by simp at hx ⊢; exact .inr hx))]
theorem nvR_congr (o : Op) (dst : Option Nat) (h : ∀ x ∈ o.operands.toList, ev T x = ev T' x) : nvR P o dst T H U = nvR P o dst T' H U := by
  cases o
  case buildSlice t n ps => simp only [nvR]; rw [evp_congr (fun x hx => h x (by simpa [Op.operands, Call.operands] using hx))]
  case call c =>
    obtain ⟨callee, args, tys⟩ := c
    cases callee with
    | value f => rfl
    | invoke _ _ => rfl
    | builtin b =>
      cases b <;> first | rfl | skip
      simp only [nvR]; rw [evs_congr (l := args.toList) (fun x hx => h x (by simpa [Op.operands, Call.operands] using hx))]
  all_goals rfl
theorem resO_congr (dr : Bool) (o : Op) (dst : Option Nat) (h : ∀ x ∈ o.operands.toList, ev T x = ev T' x) : resO dr P o dst T H U = resO dr P o dst T' H U := by
  cases dr
  · simp only [resO]; rw [nvR_congr o _ h, res_congr o (frD U dst) h]
  · cases o
    case slice t x lo hi mx =>
      simp only [resO]
      rw [res_congr _ dst h, h x (by simp [Op.operands])]
    all_goals exact res_congr (P := P) (H := H) (U := U) _ dst h
theorem gvT_congr (h : ∀ g want t, o.guard = some (g, want) → (ops[g]?).bind (·.dst) = some t → T t = T' t) : gvT ops o T = gvT ops o T' := by
  unfold gvT
  cases hg : o.guard with
  | none => rfl
  | some q =>
    obtain ⟨g, want⟩ := q
    simp only [gN]
    cases ht : (ops[g]?).bind (·.dst) with
    | none => rfl
    | some t => simp only; rw [h g want t hg ht]
theorem act_put {dst : Option Nat} {v : D} (h : ∀ d, dst = some d → d ∉ y.looksAt ops) : act P C ops y (putO T dst v) H U = act P C ops y T H U := by
  have hT : ∀ t, t ∈ y.looksAt ops → putO T dst v t = T t := fun t ht => by
    cases dst with
    | none => rfl
    | some d => exact upd_ne _ _ (fun e => h d rfl (e ▸ ht))
  unfold act
  rw [gvT_congr (T' := T) (fun g want t hg ht => hT t (List.mem_append_right _ (by rw [hg]; simp only; rw [ht]; simp)))]
  have hsk : skp P y.op (putO T dst v) = skp P y.op T := by
    unfold skp
    split
    · rename_i x _ _ hop
      have hx : ev (putO T dst v) x = ev T x := by
        cases x with
        | tmp t => exact hT t (List.mem_append_left _ (List.mem_filterMap.2 ⟨.tmp t, by rw [hop]; simp [Op.operands, Call.operands], rfl⟩))
        | _ => rfl
      rw [hx]
    · rfl
    · rfl
  rw [hsk]
  rw [resO_congr (T' := T) _ _ _ (fun x hx => by
    cases x with
    | tmp t => exact hT t (List.mem_append_left _ (List.mem_filterMap.2 ⟨_, hx, rfl⟩))
    | _ => rfl)]
theorem step_mono (h : ∀ T H U, K T H U → K' T H U) (hk : stepT P C ops o K T H U) : stepT P C ops o K' T H U := by
  rw [step_act] at hk ⊢
  obtain ⟨x, h1, h2, h3⟩ := hk
  exact ⟨x, h1, h2, h _ _ _ h3⟩
def cmB (ops : Array Oper) (x y : Oper) : Bool := x.apart ops y && (Nat.beq (klass x.op) 0 || (Nat.beq (klass y.op) 0 || (Nat.ble (klass x.op) 1 && Nat.ble (klass y.op) 1)))
theorem putO_comm {dx dy : Option Nat} (h : ∀ d, dx = some d → dy ≠ some d) (u v : D) : putO (putO T dx u) dy v = putO (putO T dy v) dx u := by
  cases dx with
  | none => rfl
  | some i =>
    cases dy with
    | none => rfl
    | some j =>
      have hij : i ≠ j := fun e => h i rfl (by rw [e])
      funext t
      simp only [putO, upd]
      by_cases h1 : t = i <;> by_cases h2 : t = j
      · omega
      · simp [h1]; intro e; omega
      · simp [h2]; intro e; omega
      · simp [h1, h2]
theorem swap (h : cmB ops x y = true) (hk : stepT P C ops x (stepT P C ops y K) T H U) : stepT P C ops y (stepT P C ops x K) T H U := by
  simp only [cmB, Bool.and_eq_true, Bool.or_eq_true, Nat.beq_eq, Nat.ble_eq] at h
  obtain ⟨hap, hcl⟩ := h
  obtain ⟨h1, h2, h3⟩ := Oper.apart_spec hap
  rw [step_act] at hk ⊢
  obtain ⟨r1, a1, c1, hk⟩ := hk
  rw [step_act] at hk
  obtain ⟨r2, a2, c2, hk⟩ := hk
  rw [act_put h1] at a2
  have fin : ∀ (r2' : Act4) (r1' : Act4), act P C ops y T H U = some r2' → r2'.1 = r2.1 → r2'.2.1 = r2.2.1 → act P C ops x T r2'.2.2.1 r2'.2.2.2 = some r1' → r1'.1 = r1.1 → r1'.2.1 = r1.2.1 → r1'.2.2.1 = r2.2.2.1 → r1'.2.2.2 = r2.2.2.2 →
      ∃ x_1, act P C ops y T H U = some x_1 ∧ x_1.1 ∧ stepT P C ops x K (putO T y.dst x_1.2.1) x_1.2.2.1 x_1.2.2.2 := by
    intro r2' r1' e1 e2 e3 e4 e5 e6 e7 e8
    refine ⟨r2', e1, by rw [e2]; exact c2, ?_⟩
    rw [step_act]
    refine ⟨r1', by rw [act_put h3]; exact e4, by rw [e5]; exact c1, ?_⟩
    rw [e3, e6, e7, e8, ← putO_comm h2]
    exact hk
  rcases hcl with hx | hy | ⟨hx, hy⟩
  · obtain ⟨e1, e2⟩ := act_read (by omega) a1
    rw [e1, e2] at a2
    exact fin r2 _ a2 rfl rfl (act_pure hx a1) rfl rfl rfl rfl
  · obtain ⟨e1, e2⟩ := act_read (by omega) a2
    exact fin _ r1 (act_pure hy a2) rfl rfl a1 rfl rfl e1.symm e2.symm
  · obtain ⟨e1, e2⟩ := act_read hx a1
    rw [e1, e2] at a2
    obtain ⟨e3, e4⟩ := act_read hy a2
    exact fin r2 r1 a2 rfl rfl (by rw [e3, e4]; exact a1) rfl rfl (by rw [e1, e3]) (by rw [e2, e4])
theorem bubble {L2 : List Oper} : ∀ {L1 : List Oper} {T : Nat → D} {H : Hp} {U : Us}, (∀ y ∈ L1, cmB ops y x = true) → opsT P C ops (L1 ++ x :: L2) K T H U → opsT P C ops (x :: (L1 ++ L2)) K T H U
  | [], _, _, _, _, h => h
  | y :: L1, _, _, _, hc, h => by
    refine swap (hc y (by simp)) ?_
    exact step_mono (fun T H U hk => bubble (fun y hy => hc y (by simp [hy])) hk) h
def frc {α : Type} (n : Nat) (k : Nat → α) : α := match n with | 0 => k 0 | m + 1 => k (m + 1)
theorem frc_eq {α : Type} (n : Nat) (k : Nat → α) : frc n k = k n := by cases n <;> rfl
def mk1 (acc : List Nat) : List Edge → Nat
  | [] => 0
  | e :: r => match Region.binds .any e with | true => Nat.lor (Nat.lor (Nat.shiftLeft 1 e.on) (acc.getD e.on 0)) (mk1 acc r) | false => mk1 acc r
def goM : List Oper → List Nat → List Nat
  | [], acc => acc
  | o :: l, acc => frc (mk1 acc o.after.toList) fun m => goM l (acc ++ [m])
def anc (ops : Array Oper) (_ i j : Nat) : Bool := Nat.testBit ((goM ops.toList []).getD i 0) j
theorem goM_at : ∀ (l : List Oper) (acc : List Nat), (goM l acc).take acc.length = acc ∧ ∀ k o, l[k]? = some o → (goM l acc).getD (acc.length + k) 0 = mk1 ((goM l acc).take (acc.length + k)) o.after.toList
  | [], acc => ⟨by simp [goM], fun k o h => by simp at h⟩
  | o :: l, acc => by
    simp only [goM, frc_eq]
    obtain ⟨h1, h2⟩ := goM_at l (acc ++ [mk1 acc o.after.toList])
    have h3 : (goM l (acc ++ [mk1 acc o.after.toList])).take acc.length = acc := by
      have := congrArg (List.take acc.length) h1
      rw [List.take_take] at this
      simpa using this
    refine ⟨h3, fun k o' hk => ?_⟩
    cases k with
    | zero =>
      simp only [List.getElem?_cons_zero, Option.some.injEq] at hk
      subst hk
      rw [Nat.add_zero, h3]
      have := congrArg (fun l => l.getD acc.length 0) h1
      simp only [List.length_append, List.length_cons, List.length_nil] at this
      rw [List.getD_eq_getElem?_getD, List.getElem?_take_of_lt (by omega)] at this
      rw [List.getD_eq_getElem?_getD, this]
      simp
    | succ k =>
      have := h2 k o' (by simpa using hk)
      simp only [List.length_append, List.length_cons, List.length_nil] at this
      rw [show acc.length + (k + 1) = acc.length + (0 + 1) + k by omega]
      exact this
theorem mk1_bit {acc : List Nat} {j : Nat} : ∀ {es : List Edge}, Nat.testBit (mk1 acc es) j = true → ∃ e ∈ es, Region.binds .any e = true ∧ (e.on = j ∨ Nat.testBit (acc.getD e.on 0) j = true)
  | [], h => by simp [mk1] at h
  | e :: r, h => by
    simp only [mk1] at h
    cases hb : Region.binds .any e with
    | false =>
      rw [hb] at h
      obtain ⟨e', h1, h2⟩ := mk1_bit h
      exact ⟨e', by simp [h1], h2⟩
    | true =>
      rw [hb] at h
      have h' : Nat.testBit (1 <<< e.on ||| acc.getD e.on 0 ||| mk1 acc r) j = true := h
      rw [Nat.testBit_or, Nat.testBit_or, Bool.or_eq_true, Bool.or_eq_true] at h'
      rcases h' with (h' | h') | h'
      · refine ⟨e, by simp, hb, .inl ?_⟩
        rw [Nat.one_shiftLeft, Nat.testBit_two_pow] at h'
        simpa using h'
      · exact ⟨e, by simp, hb, .inr h'⟩
      · obtain ⟨e', h1, h2⟩ := mk1_bit h'
        exact ⟨e', by simp [h1], h2⟩
def chkI (ops : Array Oper) (i : Nat) : Bool :=
  match ops[i]? with
  | none => true
  | some o => (o.after.toList.all fun e => !Region.binds .any e || Nat.blt e.on i) && (List.range i).all fun j => match ops[j]? with
    | some y => cmB ops y o || anc ops ops.size i j
    | none => true
def chkR (ops : Array Oper) : Bool := (List.range ops.size).all (chkI ops)
def lastA (ops : Array Oper) : Bool := match ops.size with | 0 => false | m + 1 => (List.range m).all fun j => anc ops ops.size m j
def Closed (ops : Array Oper) (listed : Array Bool) : Prop := ∀ k o, ops[k]? = some o → listed.getD k false = true → ∀ e ∈ o.after, Region.binds .any e = true → listed.getD e.on false = true
theorem anc_spec {listed : Array Bool} (hc : Closed ops listed) (n : Nat) : ∀ (i j : Nat) (o : Oper), ops[i]? = some o → (∀ e ∈ o.after, Region.binds .any e = true → listed.getD e.on false = true) → anc ops n i j = true → listed.getD j false = true := by
  intro i
  induction i using Nat.strongRecOn with
  | _ i ih =>
    intro j o ho he h
    have hat := (goM_at ops.toList []).2 i o (by simpa using ho)
    simp only [List.length_nil, Nat.zero_add] at hat
    simp only [anc] at h
    rw [hat] at h
    obtain ⟨e, hm, hb, h⟩ := mk1_bit h
    have hm' : e ∈ o.after := by simpa using hm
    have hl := he e hm' hb
    rcases h with h | h
    · rw [← h]; exact hl
    · by_cases hlt : e.on < i
      · rw [List.getD_eq_getElem?_getD, List.getElem?_take_of_lt hlt, ← List.getD_eq_getElem?_getD] at h
        cases hk : ops[e.on]? with
        | none =>
          have h1 : i < ops.size := (Array.getElem?_eq_some_iff.1 ho).1
          rw [Array.getElem?_eq_getElem (by omega)] at hk
          cases hk
        | some o' => exact ih e.on hlt j o' hk (hc e.on o' hk hl) h
      · rw [List.getD_eq_getElem?_getD, List.getElem?_eq_none (by simp; omega)] at h
        simp at h
end
end Go.Tn
