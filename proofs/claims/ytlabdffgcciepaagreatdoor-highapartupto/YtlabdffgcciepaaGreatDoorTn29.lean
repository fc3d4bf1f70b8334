/- Symbolic data, and what the operations do to it. -/
import Derived.Test.YtlabdffgcciepaaGreatDoorTn28
set_option linter.unusedSimpArgs false
set_option linter.unusedVariables false
set_option linter.unusedSectionVars false
namespace Go.Tn
open Go.RowKit
def valR : List D → D
  | [d] => d
  | ds => .tup ds
def ownO (x : Option LObj) (n e sz : Nat) (rows : List (List D)) : Prop := match x with | some (.vec e' sz' rows' fz) => e' = e ∧ sz' = sz ∧ rows' = rows ∧ rows'.length = n ∧ fz = 0 | _ => False
def ownC (x : Option LObj) (n e sz : Nat) : Prop := match x with | some (.vec e' sz' rows' fz) => e' = e ∧ sz' = sz ∧ rows'.length = n ∧ fz = 0 ∧ 0 < n | _ => False
def ownD (d : D) (H : Hp) (e sz : Nat) (rows : List (List D)) : Prop := match d with | .vec i n => ownO (H i) n e sz rows | .nil => rows = [] | .vsub i n _ 0 0 => rows = [] ∧ ownC (H i) n e sz | _ => False
def seqD (x : Option LObj) : Prop := match x with | some (.yl ys d st) => st = false → d = ys | _ => False
def finK (out : Out) (d : D) (H : Hp) : Prop :=
  match out with
  | .ret r => news H [d] ∧ wk (cv H 6 d) r
  | .own e sz rows => ownD d H e sz rows
  | .seq _ => seqD (H 999)
  | .pan _ => False
def panF (out : Out) (d : D) : Prop := match out with | .pan d' => d = d' ∧ gnd d = true | _ => False
def valV : List Value → Value
  | [v] => v
  | vs => .tuple vs.toArray
def mapT (T : Nat → D) : List Nat → List D
  | [] => []
  | r :: rs => T r :: mapT T rs
def finX (rs : List Nat) (out : Out) (e : X) (T : Nat → D) (H : Hp) (_U : Us) : Prop :=
  match e with
  | .normal => finK out (valR (mapT T rs)) H
  | .ret => finK out (valR (mapT T rs)) H
  | .pan d => panF out d
  | _ => False
def finMK (o1 : List (Nat × LObj)) (out : MOut) (d : D) (H : Hp) (U : Us) : Prop :=
  match out with
  | .ret d' => (wkN U d d' ∧ inO (mkU o1) d') ∧ entO U (mkU o1) H o1
  | .pan _ => False
def panM (o1 : List (Nat × LObj)) (out : MOut) (d : D) (H : Hp) (U : Us) : Prop :=
  match out with
  | .pan d' => (d = d' ∧ gnd d = true) ∧ entO U (mkU o1) H o1
  | .ret _ => False
def finXM (rs : List Nat) (o1 : List (Nat × LObj)) (out : MOut) (e : X) (T : Nat → D) (H : Hp) (U : Us) : Prop :=
  match e with
  | .normal => finMK o1 out (valR (mapT T rs)) H U
  | .ret => finMK o1 out (valR (mapT T rs)) H U
  | .pan d => panM o1 out d H U
  | _ => False
def argT (k : Nat) : List D → Nat → D
  | [] => fun _ => .any
  | d :: ds => upd (argT (k + 1) ds) k d
section
variable {P : Program} [Fen P] {C : Spec} {S S' : Ex} {p : Pl} {w w' : World}
theorem argT_rd : ∀ {ds : List D} {vs : List Value} (k : Nat), RdL S w ds p vs → ∀ t, Rd S w (argT k ds t) p (if k ≤ t then vs.getD (t - k) undef else undef)
  | [], vs, k, h, t => by simp [argT, Rd]
  | d :: ds, _, k, h, t => by
    obtain ⟨v, r, rfl, h1, h2⟩ := h
    simp only [argT]
    by_cases e : t = k
    · subst e; rw [upd_same]; simpa using h1
    · rw [upd_ne _ _ e]
      have := argT_rd (k + 1) h2 t
      by_cases hk : k ≤ t
      · rw [if_pos (by omega)] at this
        rw [if_pos hk, show t - k = (t - (k + 1)) + 1 from by omega]
        simpa using this
      · rw [if_neg (by omega)] at this; rw [if_neg hk]; exact this
theorem argT_any : ∀ {ds : List D} (k t : Nat), k + ds.length ≤ t ∨ t < k → argT k ds t = .any
  | [], _, _, _ => rfl
  | d :: ds, k, t, h => by
    simp only [argT]
    simp only [List.length_cons] at h
    rw [upd_ne _ _ (by omega)]
    exact argT_any (k + 1) t (by omega)
theorem mapT_rd {T : Nat → D} {a : Act} (h : ∀ t, Rd S w (T t) p (a.tmps.getD t undef)) : ∀ rs : List Nat, RdL S w (mapT T rs) p (rs.map fun t => a.tmps.getD t undef)
  | [] => rfl
  | r :: rs => ⟨_, _, rfl, h r, mapT_rd h rs⟩
theorem run_results {fn : Func} {rs : List Nat} (hr : fn.results.toList = rs.map .tmp) (tmps : Array Value) (w : World) :
    (results fn tmps).run P w = .ok (valV (rs.map (fun t => tmps.getD t undef))) w := by
  unfold results
  have e : fn.results = (rs.map ResultVar.tmp).toArray := by rw [← hr]
  rw [e]
  have h1 : ∀ w, (((rs.map ResultVar.tmp).toArray.mapM fun x => match x with
    | .tmp t => (pure (tmps.getD t undef) : Sem Value)
    | .cell a t => do loadVar t (← asAddr (tmps.getD a undef))) : Sem (Array Value)).run P w = .ok (rs.map (fun t => tmps.getD t undef)).toArray w := by
    intro w
    rw [List.mapM_toArray]
    have := run_mapM (P := P) (f := fun x => match x with
      | ResultVar.tmp t => (pure (tmps.getD t undef) : Sem Value)
      | .cell a t => do loadVar t (← asAddr (tmps.getD a undef))) (fun x => match x with | .tmp t => tmps.getD t undef | .cell _ _ => undef) (rs.map ResultVar.tmp) (fun x hx w => by
        obtain ⟨t, _, rfl⟩ := List.mem_map.1 hx; rfl) w
    simp only [Sem.run_map, this, List.map_map]
    rfl
  rw [Sem.run_bind]
  refine (congrArg (fun r => Result.andThen r _) (h1 w)).trans ?_
  simp only [Result.andThen_ok, Sem.run_pure]
  congr 1
  match rs.map (fun t => tmps.getD t undef) with
  | [] => rfl
  | [v] => rfl
  | v :: u :: r => simp [valV]
theorem valR_rd {ds : List D} {vs : List Value} (h : RdL S w ds p vs) : Rd S w (valR ds) p (valV vs) := by
  match ds, h with
  | [], h => simp only [RdL] at h; subst h; simp only [valR, Rd]; exact ⟨[], rfl, rfl⟩
  | [d], h => obtain ⟨v, r, rfl, h1, h2⟩ := h; simp only [RdL] at h2; subst h2; exact h1
  | d :: e :: ds, h =>
    obtain ⟨v, r, rfl, h1, h2⟩ := h
    obtain ⟨u, r, rfl, h3, h4⟩ := h2
    simp only [valR, Rd]
    exact ⟨v :: u :: r, rfl, v, _, rfl, h1, u, r, rfl, h3, h4⟩
theorem owns_lift {n0 e sz : Nat} {v : Value} {n : Nat} {xs : List Value} (h : w.ownsRow 0 e sz v n xs) (hb : ∀ b, v.ownBlock = some b → n0 ≤ b) : w.ownsRow n0 e sz v n xs := by
  obtain ⟨h1, h2⟩ := h
  refine ⟨h1, ?_⟩
  rcases h2 with h2 | ⟨g, cap, cur, hv, hg, r⟩
  · exact .inl h2
  · exact .inr ⟨g, cap, cur, hv, hb g (by rw [hv]; rfl), r⟩
def plainB (S : Ex) (w : World) : Base := { n0 := w.heap.size, mb := fun _ => false, w0 := w, S0 := S, it := false, l := 0, lr := default, ys := [], J := fun _ _ _ _ _ => False, Jok := fun _ _ _ _ _ _ _ h => h.elim, Kp := fun S' w' => Keep S S' w w', Kpok := fun _ _ _ _ h k => h.trans k, L0 := [], q := fun _ => gnil, d0 := [], nm := false, Jp := fun _ _ _ => False }
theorem SameOut.below {w w' : World} (h : SameOut w.heap.size (fun _ => false) w w') : Below w.heap.size w w' := ⟨h.os, h.tape, h.output, h.size, fun b hb => h.block b hb rfl⟩
theorem finK_ok {B : Base} {N : Nat} {T : Nat → D} {H : Hp} {U : Us} {a : Act} {out : Out} {d : D} {v : Value} (hR : R B N S p T H U a w) (hit : B.it = false) (hmb : ∀ b, B.mb b = false) (hns : ∀ ys, out ≠ .seq ys) (hd : Rd S w d p v) (hk : finK out d H) :
    ∃ S', (∀ b, b < B.n0 → S' b = B.S0 b) ∧ (∀ b, 0 < S' b → b < w.heap.size) ∧ OutRd B.n0 S' w out v := by
  cases out with
  | ret r =>
    obtain ⟨hn, hw⟩ := hk
    obtain ⟨S', hh, _, hr⟩ := per_ok hR.hp hn (ds := [d]) ⟨v, [], rfl, hd, rfl⟩
    obtain ⟨v', r', e, h1, _⟩ := hr
    cases e
    exact ⟨S', fun b hb => hh.old hit b hb (hmb b), hh.ext, wk_ok _ _ hw h1⟩
  | own e sz rows =>
    simp only [finK] at hk
    unfold ownD at hk
    split at hk
    · rename_i i n
      simp only [Rd] at hd
      obtain ⟨g, hg, _, _, hv⟩ := hd
      unfold ownO at hk
      split at hk
      · rename_i e' sz' rows' fz ho
        obtain ⟨rfl, rfl, rfl, hn, rfl⟩ := hk
        obtain ⟨g', hg', xs, ⟨hown, howno⟩, hob, hl, hlt, hrl, hr, hc, hs, _⟩ := hR.hp.obj i _ ho
        rw [hg] at hg'; cases hg'
        obtain rfl := hv (by omega)
        exact ⟨S, fun b hb => hR.hp.old hit b hb (hmb b), hR.hp.ext, xs, owns_lift hown (fun b hb => by
          rcases howno b (hob.trans hb) with h | h
          · exact h
          · rw [hmb b] at h; cases h), hlt, hrl, hr, hc, fun b hb => by have := hs b (hob.trans hb); omega⟩
      · exact hk.elim
    · subst hk
      simp only [Rd] at hd; subst hd
      exact ⟨S, fun b hb => hR.hp.old hit b hb (hmb b), hR.hp.ext, [], World.ownsRow_nil _ _ _ _, by simp, by simp, rfl, by simp, fun b hb => by cases hb⟩
    · rename_i i n z0
      obtain ⟨rfl, hk⟩ := hk
      simp only [Rd] at hd
      obtain ⟨g, hg, _, _, hv⟩ := hd
      unfold ownC at hk
      split at hk
      · rename_i e' sz' rows' fz ho
        obtain ⟨rfl, rfl, hn, rfl, h0⟩ := hk
        obtain ⟨g', hg', xs, ⟨hown, howno⟩, hob, hl, hlt, hrl, hr, hc, hs, _⟩ := hR.hp.obj i _ ho
        rw [hg] at hg'; cases hg'
        obtain ⟨b, cap, off, hgo, hgh, hvv, hoff⟩ := hv (by omega)
        have hof : off = 0 := by simpa using hoff
        subst hof
        subst hvv
        have hb0 : B.n0 ≤ b := by
          rcases howno b hgo with h | h
          · exact h
          · rw [hmb b] at h; cases h
        have hown2 := hown.2
        rw [hgh] at hown2
        rcases hown2 with ⟨e1, _⟩ | ⟨gb, cp, cu, e1, _, hhb, hnc, hcm, hcs, _⟩
        · cases e1
        · cases e1
          exact ⟨S, fun b hb => hR.hp.old hit b hb (hmb b), hR.hp.ext, [], ⟨by simp, .inr ⟨b, cap, cu, by simp, hb0, hhb, Nat.zero_le _, hcm, hcs, by simp⟩⟩, by simp, by simp, rfl, by simp, fun b' hb' => by
            simp only [Value.ownBlock, Option.some.injEq] at hb'
            subst hb'
            have := hs b hgo
            omega⟩
      · exact hk.elim
    · exact hk.elim
  | seq ys => exact absurd rfl (hns ys)
  | pan _ => exact hk.elim
structure Dn (n0 : Nat) (w w' : World) : Prop where
  os : w'.os = w.os
  tape : w'.tape = w.tape
  output : w'.output = w.output
  size : w'.heap.size = w.heap.size
  low : ∀ b, b < n0 → w'.heap[b]? = w.heap[b]?
  keep : ∀ (b : Nat) (o : Obj), w.heap[b]? = some o → (∀ x, o ≠ .deferred x) → w'.heap[b]? = some o
theorem Dn.refl (n0 : Nat) (w : World) : Dn n0 w w := ⟨rfl, rfl, rfl, rfl, fun _ _ => rfl, fun _ _ h _ => h⟩
theorem Dn.trans {n0 : Nat} {w w1 w2 : World} (h : Dn n0 w w1) (k : Dn n0 w1 w2) : Dn n0 w w2 :=
  ⟨k.os.trans h.os, k.tape.trans h.tape, k.output.trans h.output, k.size.trans h.size, fun b hb => (k.low b hb).trans (h.low b hb), fun b o ho hd => k.keep b o (h.keep b o ho hd) hd⟩
theorem Dn.weak {n0 : Nat} (h : Dn n0 w w') (S : Ex) : KeepW S S w w' := by
  refine ⟨fun _ => Nat.le_refl _, fun b off v _ hv => ?_, fun b es c _ hm => h.keep b _ hm (fun x e => by cases e)⟩
  have : ∃ o, w.heap[b]? = some o ∧ ∀ x, o ≠ .deferred x := by
    simp only [World.cell?] at hv
    cases ho : w.heap[b]? with
    | none => rw [ho] at hv; cases hv
    | some o => rw [ho] at hv; exact ⟨o, rfl, fun x e => by subst e; cases hv⟩
  obtain ⟨o, ho, hd⟩ := this
  have h2 := h.keep b o ho hd
  rw [← hv]
  exact cell_of_block (by rw [h2, ho])
theorem leaves_marks {F : Fence} {n : Nat} {fn : Func} {tmps : Array Value} {Rr : Ending → World → Prop} {n0 : Nat} {u : FrameMode} (hu : u ≠ .run) : ∀ (ds : List Deferred) (w : World), Mks n0 ds w → (∀ w', Dn n0 w w' → LeavesIn F n P fn tmps Rr [] u w') →
    LeavesInM F n P fn tmps Rr ds u w
  | [], w, _, h => h w (Dn.refl _ _)
  | d :: ds, w, hm, h => by
    obtain ⟨r, e, hr, hb⟩ := hm.is d (by simp)
    refine ⟨hu, .inl ⟨r, w.putObj r (.deferred none), by rw [e], run_takeDeferred hb, ?_⟩⟩
    have hdn : Dn n0 w (w.putObj r (.deferred none)) := ⟨rfl, rfl, rfl, by simp, fun b hb => World.putObj_heap_other (by omega), fun b o ho hd => (World.putObj_heap_other (fun e => by subst e; rw [hb] at ho; cases ho; exact hd _ rfl)).trans ho⟩
    refine leaves_marks hu ds _ ⟨fun d' hd' => ?_, (List.pairwise_cons.1 hm.nd).2⟩ (fun w' hw => h w' (hdn.trans hw))
    obtain ⟨r', e', hr', hb'⟩ := hm.is d' (by simp [hd'])
    refine ⟨r', e', hr', (World.putObj_heap_other (fun er => ?_)).trans hb'⟩
    have := (List.pairwise_cons.1 hm.nd).1 d' hd'
    exact this (by rw [e, e', er])
theorem outRd_dn {n0 : Nat} {out : Out} {v : Value} (h : OutRd n0 S w out v) (hd : Dn n0 w w') : OutRd n0 S w' out v := by
  cases out with
  | ret d => exact Rd.monoW (hd.weak S) d (PlLe.refl _) h
  | own e sz rows =>
    obtain ⟨xs, h1, h2, h3, h4, h5, h6⟩ := h
    refine ⟨xs, ⟨h1.1, ?_⟩, h2, h3, RdL.monoW (hd.weak S) _ (PlLe.refl _) h4, h5, h6⟩
    rcases h1.2 with h | ⟨g, cap, cur, hv, hg, hh, r⟩
    · exact .inl h
    · exact .inr ⟨g, cap, cur, hv, hg, hd.keep _ _ hh (fun x e => by cases e), r⟩
  | seq ys => exact h.elim
  | pan _ => exact h.elim
theorem args_rd {caps args : List D} {vs cs : List Value} {m : Nat} (hargs : RdL S w (args ++ caps) p (vs ++ cs)) (t : Nat) :
    Rd S w (argT 0 (args ++ caps) t) p (((vs ++ cs).toArray ++ Array.replicate (m - (vs ++ cs).toArray.size) undef).getD t undef) := by
  have hlen := rdL_len hargs
  by_cases ht : t < (vs ++ cs).length
  · have := argT_rd 0 hargs t
    simp only [Nat.zero_le, if_true, Nat.sub_zero] at this
    have e : ((vs ++ cs).toArray ++ Array.replicate (m - (vs ++ cs).toArray.size) undef).getD t undef = (vs ++ cs).getD t undef := by
      rw [Array.getD_eq_getD_getElem?, Array.getElem?_append_left (by simpa using ht), List.getD_eq_getElem?_getD]
      simp
    rw [e]; exact this
  · rw [argT_any 0 t (by omega)]; simp [Rd]
theorem fc_of {f : Nat} {fn : Func} {c : Code} {rs : List Nat} {caps args : List D} {out : Out} (hm : P.follows .mixedOrders = true) (hf : P.funcs[f]? = some fn) (hname : (fn.name == "runtime.NumGoroutine") = false)
    (hb : fn.body = some c) (hr : fn.results.toList = rs.map .tmp) (hc : chkC C.js fn.ntmps c = true) (hns : ∀ ys, out ≠ .seq ys)
    (hk : vc P C c [] (argT 0 (args ++ caps)) (fun _ => none) (fun _ => false) (finX rs out)) : FC P f caps args out := by
  have hfs : (P.funcs[f]?).isSome = true := by rw [hf]; rfl
  have main : ∀ (S : Ex) (w : World) (cs vs : List Value), Laid P S w → (∀ b, 0 < S b → b < w.heap.size) → RdL S w caps noPl cs → RdL S w args noPl vs →
    CallsF P f (vs ++ cs).toArray w fun e w' => ∃ S', Below w.heap.size w w' ∧ (∀ b, b < w.heap.size → S' b = S b) ∧ (∀ b, 0 < S' b → b < w'.heap.size) ∧ EndRd w.heap.size S' w' out e := by
    intro S w cs vs hla hext h1 h2
    haveI : LB P (plainB S w) := ⟨fun S' w' h => hla.mono h⟩
    have hargs := rdL_append h2 h1
    have hlen := rdL_len hargs
    refine callsIn_of_wp_marks (F := Fx P) hf hb (fun _ => hfs) ?_
    have hR : R (plainB S w) fn.ntmps S noPl (argT 0 (args ++ caps)) (fun _ => none) (fun _ => false)
        { tmps := (vs ++ cs).toArray ++ Array.replicate (fn.ntmps - (vs ++ cs).toArray.size) undef, defers := [] } w :=
      ⟨args_rd hargs, by simp; omega, ⟨fun i o hi => by simp at hi, fun i j o o' g g' b hi => by simp at hi, fun i g hg => by simp [noPl] at hg, hext, fun _ _ _ _ => rfl, Nat.le_refl _, fun _ => SameOut.refl _ _ _, fun i ys d st hi => by simp at hi, fun i hi => by simp at hi, fun i ys d st g b hi => by simp at hi⟩,
        Marks.nil, Keep.refl _ _, fun i hi => (by cases hi)⟩
    refine vc_sound (ro := none) hm c (fun h => by cases h) (fun h => by cases h) (.inr ⟨rfl, rfl, rfl⟩) hc hk hR (fun e x S' p' T' H' U' a' w' hx hk' hR' => ?_) (fun _ _ _ _ h _ => h.elim)
    obtain ⟨⟨ms, hms, hmk⟩, _⟩ := hR'.dfs
    have hms' : a'.defers = ms := by rw [hms]; simp [plainB]
    have hbel := (hR'.hp.bel rfl).below
    have below2 : ∀ {w2 : World}, Dn w.heap.size w' w2 → Below w.heap.size w w2 := fun {w2} hd => ⟨hd.os.trans hbel.os, hd.tape.trans hbel.tape, hd.output.trans hbel.output, by rw [hd.size]; exact hbel.size, fun b hb => (hd.low b hb).trans (hbel.block b hb)⟩
    have done : finK out (valR (mapT T' rs)) H' → LeavesInM (Fx P) 0 P fn a'.tmps (fun e w' => ∃ S', Below w.heap.size w w' ∧ (∀ b, b < w.heap.size → S' b = S b) ∧ (∀ b, 0 < S' b → b < w'.heap.size) ∧ EndRd w.heap.size S' w' out e) a'.defers .returning w' := fun hk => by
      obtain ⟨S2, h1, h2, h3⟩ := finK_ok hR' rfl (fun _ => rfl) hns (valR_rd (mapT_rd hR'.tmp rs)) hk
      rw [hms']
      exact leaves_marks (by simp) _ _ hmk (fun w2 hd => ⟨_, run_results hr _ _, S2, below2 hd, h1, fun b hb => by rw [hd.size]; exact h2 b hb, outRd_dn h3 hd⟩)
    cases e with
    | normal => obtain rfl := hx; exact done hk'
    | ret => obtain rfl := hx; exact done hk'
    | exit i => exact hk'.elim
    | goto l => exact hk'.elim
    | pan d =>
      obtain ⟨v, rfl, hd⟩ := hx
      simp only [finX] at hk'
      unfold panF at hk'
      split at hk'
      · obtain ⟨rfl, hg⟩ := hk'
        show LeavesInM (Fx P) 0 P fn a'.tmps _ a'.defers (.panicking (pch v)) w'
        rw [hms']
        exact leaves_marks (by simp) _ _ hmk (fun w2 hd2 => ⟨S', below2 hd2, fun b hb => hR'.hp.old rfl b hb rfl, fun b hb => by rw [hd2.size]; exact hR'.hp.ext b hb, v, rfl, hg, gnd_rd _ hg hd⟩)
      · exact hk'.elim
  refine ⟨⟨fn, hf, hname, by rw [hb]; rfl⟩, ?_⟩
  cases out with
  | ret d => exact main
  | own e sz rows => exact main
  | seq ys => exact absurd rfl (hns ys)
  | pan d => exact main
theorem fcy_of {f : Nat} {fn : Func} {c : Code} {caps : List D} {ys : List (List D)} (hm : P.follows .mixedOrders = true) (hf : P.funcs[f]? = some fn) (hname : (fn.name == "runtime.NumGoroutine") = false)
    (hb : fn.body = some c) (hr : fn.results.toList = ([] : List Nat).map .tmp) (hc : chkC C.js fn.ntmps c = true) (hn : noRg c = true)
    (hk : vc P C c [] (argT 0 (.yld 999 :: caps)) (mkH [(999, .yl ys [] false)]) (mkU [(999, .yl ys [] false)]) (finX [] (.seq ys))) : FC P f caps [] (.seq ys) := by
  refine ⟨⟨fn, hf, hname, by rw [hb]; rfl⟩, fun B S w cs E hn0 hmb hit hys hJS hJ hE hext hLB hKp hL0 hd0 hnm hcs => ?_⟩
  have hfs : (P.funcs[f]?).isSome = true := by rw [hf]; rfl
  let g0 : G := ⟨B.l, none, 0, .nilFunc, E⟩
  let p0 : Pl := upd noPl 999 (some g0)
  have hargs : RdL S w ([.yld 999] ++ caps) p0 ([Value.func (.yield B.l) #[] #[]] ++ cs) :=
    rdL_append ⟨_, _, rfl, by simp only [Rd]; exact ⟨g0, upd_same _ _ _, rfl⟩, rfl⟩ (RdL.mono (Keep.refl _ _) _ (PlLe.none _) hcs)
  have hlen := rdL_len hargs
  refine callsIn_of_wp_marks (F := Fx P) hf hb (fun _ => hfs) ?_
  have hp0 : ∀ {i : Nat} {g : G}, p0 i = some g → i = 999 ∧ g = g0 := fun {i g} h => by
    by_cases e : i = 999
    · subst e; simp only [p0, upd_same] at h; cases h; exact ⟨rfl, rfl⟩
    · simp only [p0] at h; rw [upd_ne _ _ e] at h; cases h
  have hH0 : ∀ {i : Nat} {o : LObj}, mkH [(999, .yl ys [] false)] i = some o → i = 999 ∧ o = .yl ys [] false := fun {i o} h => by
    simp only [mkH] at h
    rcases upd_some h with h | ⟨_, h⟩
    · exact h
    · cases h
  have hR : R B fn.ntmps S p0 (argT 0 ([.yld 999] ++ caps)) (mkH [(999, .yl ys [] false)]) (mkU [(999, .yl ys [] false)])
      { tmps := ([Value.func (.yield B.l) #[] #[]] ++ cs).toArray ++ Array.replicate (fn.ntmps - ([Value.func (.yield B.l) #[] #[]] ++ cs).toArray.size) undef, defers := [] } w := by
    refine ⟨args_rd hargs, by simp; omega, ⟨fun i o hi => ?_, fun i j o o' g g' b hi hj _ _ _ _ => (hH0 hi).1.trans (hH0 hj).1.symm, fun i g hg => ?_, hext, (fun h => by rw [hit] at h; cases h), by omega, (fun h => by rw [hit] at h; cases h), fun i ys d st hi => (hH0 hi).1, (fun i hi => by have := (hH0 hi).2; cases this), fun i ys' d st g b hi hpi hb => ?_⟩,
        by rw [hd0]; exact Marks.nil, hKp, (fun i hi => by rw [hL0] at hi; cases hi)⟩
    · obtain ⟨rfl, rfl⟩ := hH0 hi
      exact ⟨g0, upd_same _ _ _, hJ, rfl, rfl, hys.symm, hit⟩
    · obtain ⟨rfl, _⟩ := hp0 hg; simp [mkU, upd]
    · obtain ⟨rfl, rfl⟩ := hp0 hpi
      refine ⟨hE b hb, fun j o g' hj hpj => ?_⟩
      obtain ⟨rfl, rfl⟩ := hp0 hpj
      intro h; cases h
  refine vc_sound (ro := none) hm c (fun _ => hJS) (fun _ => hnm) (.inl hn) hc (by rw [hL0]; exact hk) hR (fun e x S' p' T' H' U' a' w' hx hk' hR' => ?_) (fun ch S' a' w' hj hd => ?_)
  · have done : seqD (H' 999) → LeavesInM (Fx P) 0 P fn a'.tmps (fun e w' => (e = .returned (.tuple #[]) ∧ ∃ d st E' S', B.J d st E' S' w' ∧ (st = false → d = ys)) ∨ ∃ ch S', e = .panicked ch ∧ B.Jp ch S' w') a'.defers .returning w' := fun hs => by
      rw [hR'.dfs.2 hnm]
      refine ⟨_, run_results hr _ _, .inl ⟨rfl, ?_⟩⟩
      unfold seqD at hs
      split at hs
      · rename_i ys' d st hy
        obtain ⟨g, hg, h1, _, _, h2, _⟩ := hR'.hp.obj 999 _ hy
        exact ⟨d, st, g.env, S', h1, fun h => (hs h).trans (h2.trans hys)⟩
      · exact hs.elim
    cases e with
    | normal => obtain rfl := hx; exact done hk'
    | ret => obtain rfl := hx; exact done hk'
    | exit i => exact hk'.elim
    | goto l => exact hk'.elim
    | pan d => exact hk'.elim
  · show LeavesInM (Fx P) 0 P fn a'.tmps _ a'.defers (.panicking ch) w'
    rw [hd]
    exact .inr ⟨ch, S', rfl, hj⟩
theorem ObjRel.dn {B : Base} {g : G} {o : LObj} {n0 : Nat} (h : ObjRel B S p w g o) (hpl : plainO o) (hd : Dn n0 w w') : ObjRel B S p w' g o := by
  have hk := hd.weak S
  cases o with
  | blk cs fz =>
    obtain ⟨vs, ty, h1, h2, h3, h4, h5⟩ := h
    refine ⟨vs, ty, hd.keep _ _ h1 (fun x e => by cases e), h2, h3, ?_, h5⟩
    exact RdL.monoW hk cs (PlLe.refl _) h4
  | vec e sz rows fz =>
    obtain ⟨xs, ⟨h1, h1'⟩, h2, h3, h4, h5, h6, h7⟩ := h
    refine ⟨xs, ⟨⟨h1.1, ?_⟩, h1'⟩, h2, h3, h4, h5, RdL.monoW hk _ (PlLe.refl _) h6, h7⟩
    rcases h1.2 with h | ⟨g, cap, cur, hv, hg, hh, r⟩
    · exact .inl h
    · exact .inr ⟨g, cap, cur, hv, hg, hd.keep _ _ hh (fun x e => by cases e), r⟩
  | mp ks ds fz =>
    obtain ⟨es, c, h1, h2, h3, h4, h5, h6⟩ := h
    exact ⟨es, c, hd.keep _ _ h1 (fun x e => by cases e), h2, h3, RdL.monoW hk ks (PlLe.refl _) h4, RdL.monoW hk ds (PlLe.refl _) h5, h6⟩
  | mv ks ms =>
    obtain ⟨es, c, h1, h2, h3, h4, h5, h6⟩ := h
    exact ⟨es, c, hd.keep _ _ h1 (fun x e => by cases e), h2, h3, RdL.monoW hk ks (PlLe.refl _) h4, RdL.monoW hk _ (PlLe.refl _) h5, h6⟩
  | yl _ _ _ => exact hpl.elim
  | lrec => exact hpl.elim
  | nv e ms =>
    obtain ⟨xs, ⟨h1, h1'⟩, h2, h3, h4, h6, h7, h8⟩ := h
    refine ⟨xs, ⟨⟨h1.1, ?_⟩, h1'⟩, h2, h3, h4, RdL.monoW hk _ (PlLe.refl _) h6, h7, h8⟩
    rcases h1.2 with h | ⟨g, cap, cur, hv, hg, hh, r⟩
    · exact .inl h
    · exact .inr ⟨g, cap, cur, hv, hg, hd.keep _ _ hh (fun x e => by cases e), r⟩
theorem Heap.dn {B : Base} {H : Hp} {U : Us} (h : Heap B S p H U w) (hpl : ∀ i o, H i = some o → plainO o) (hd : Dn B.n0 w w') : Heap B S p H U w' := by
  refine ⟨fun i o hi => ?_, h.inj, h.use, fun b hb => by rw [hd.size]; exact h.ext b hb, h.old, by rw [hd.size]; exact h.size, fun hi => (h.bel hi).trans ⟨hd.os, hd.tape, hd.output, by rw [hd.size]; exact Nat.le_refl _, fun b hb _ => hd.low b hb⟩,
    fun i ys d st hi => (hpl i _ hi).elim, fun i hi => (hpl i _ hi).elim, fun i ys d st g b hi => (hpl i _ hi).elim⟩
  obtain ⟨g, hg, hr⟩ := h.obj i o hi
  exact ⟨g, hg, hr.dn (hpl i o hi) hd⟩
theorem Keep.dn {w0 : World} {S0 : Ex} (h : Keep S0 S w0 w) (hd : Dn w0.heap.size w w') : Keep S0 S w0 w' := by
  have hk := hd.weak S
  refine ⟨h.le, fun b off v hb hc => ?_, fun b es c hb hm => ?_, fun b x hx => ?_, fun b cs t z hb hs => ?_⟩
  · exact hk.cell b off v (Nat.lt_of_lt_of_le hb (h.le b)) (h.cell b off v hb hc)
  · exact hk.map b es c (Nat.lt_of_lt_of_le hb (h.le b)) (h.map b es c hb hm)
  · rw [hd.low b (Array.getElem?_eq_some_iff.1 hx).1]; exact h.dfr b x hx
  · rw [hd.low b (Array.getElem?_eq_some_iff.1 hb).1]; exact h.whole b cs t z hb hs
theorem rdF_rdL : ∀ {ds : List (Bool × D)} {vs : List Value}, RdF S w p ds vs → RdL S w (ds.map (·.2)) p vs
  | [], _, h => h
  | (b, d) :: ds, _, h => by
    obtain ⟨v, r, rfl, h1, h2⟩ := h
    refine ⟨v, r, rfl, ?_, rdF_rdL h2⟩
    cases b with
    | true => exact h1
    | false => exact Rd.mono (Keep.refl _ _) d (PlLe.none _) h1
theorem fcm_of {f : Nat} {fn : Func} {c : Code} {rs : List Nat} {all : List (Bool × D)} {o0 o1 : List (Nat × LObj)} {out : MOut} (hm : P.follows .mixedOrders = true) (hf : P.funcs[f]? = some fn) (hname : (fn.name == "runtime.NumGoroutine") = false)
    (hb : fn.body = some c) (hr : fn.results.toList = rs.map .tmp) (hc : chkC C.js fn.ntmps c = true) (hpl : plainL o1)
    (hk : vc P C c (fltU (mkU o1) (idsO o0)) (argT 0 (all.map (·.2))) (mkH o0) (mkU o0) (finXM rs o1 out)) : FCM P f all o0 o1 out := by
  have hfs : (P.funcs[f]?).isSome = true := by rw [hf]; rfl
  refine ⟨⟨fn, hf, hname, by rw [hb]; rfl⟩, fun B S p w vs hit hd0 hnm hjp hn0 hKp hla hL0 hlk hh hargs => ?_⟩
  haveI : LB P B := ⟨fun S' w' h => by rw [hKp] at h; exact hla.mono h⟩
  have hargs' := rdF_rdL hargs
  have hlen := rdL_len hargs'
  refine callsIn_of_wp_marks (F := Fx P) hf hb (fun _ => hfs) ?_
  have hplH : ∀ i o, mkH o1 i = some o → plainO o := (plainL_spec hpl).2.2
  have hR : R B fn.ntmps S p (argT 0 (all.map (·.2))) (mkH o0) (mkU o0) { tmps := vs.toArray ++ Array.replicate (fn.ntmps - vs.toArray.size) undef, defers := [] } w := by
    have := args_rd (m := fn.ntmps) (caps := []) (cs := []) (args := all.map (·.2)) (vs := vs) (p := p) (S := S) (w := w) (by simpa using hargs')
    simp only [List.append_nil] at this
    exact ⟨this, by simp; omega, hh, by rw [hd0]; exact Marks.nil, by rw [hKp]; exact Keep.refl _ _, hlk⟩
  refine vc_sound (ro := none) hm c (fun h => by rw [hit] at h; cases h) (fun h => by rw [hit] at h; cases h) (.inr ⟨rfl, hit, hnm⟩) hc (by rw [hL0]; exact hk) hR (fun e x S' p' T' H' U' a' w' hx hk' hR' => ?_) (fun ch S' a' w' hj hd => ?_)
  · obtain ⟨⟨ms, hms, hmk⟩, _⟩ := hR'.dfs
    have hms' : a'.defers = ms := by rw [hms, hd0]; simp
    have fin : entO U' (mkU o1) H' o1 → ∀ {w2 : World}, Dn B.n0 w' w2 → Heap B S' (cutP p' (mkU o1)) (mkH o1) (mkU o1) w2 ∧ Keep S S' w w2 ∧ ∀ i ∈ B.L0, ∃ g, cutP p' (mkU o1) i = some g ∧ GLe (B.q i) g := fun hO w2 hd => by
      refine ⟨(hR'.hp.cut hO).dn hplH hd, ?_, fun i hi => ?_⟩
      · have hkp := hR'.kp
        rw [hKp] at hkp
        exact hkp.dn (by rw [← hn0]; exact hd)
      · obtain ⟨g, hg, e⟩ := hR'.lk i hi
        have hu : mkU o1 i = true := by rw [hL0] at hi; exact (fltU_mem.1 hi).2
        exact ⟨g, cutP_in hu hg, e⟩
    have done : finMK o1 out (valR (mapT T' rs)) H' U' → LeavesInM (Fx P) 0 P fn a'.tmps (fun e w' => ∃ S' p', EndM S' w' p' out e ∧ Heap B S' p' (mkH o1) (mkU o1) w' ∧ Keep S S' w w' ∧ ∀ i ∈ B.L0, ∃ g, p' i = some g ∧ GLe (B.q i) g) a'.defers .returning w' := fun hk => by
      unfold finMK at hk
      split at hk
      · obtain ⟨⟨h1, h2⟩, h3⟩ := hk
        rw [hms']
        refine leaves_marks (by simp) _ _ hmk (fun w2 hd => ⟨_, run_results hr _ _, S', cutP p' (mkU o1), ?_, fin h3 hd⟩)
        exact Rd.monoW (hd.weak S') _ (PlLe.refl _) (wkN_ok hR'.hp.use h1 h2 (valR_rd (mapT_rd hR'.tmp rs)))
      · exact hk.elim
    cases e with
    | normal => obtain rfl := hx; exact done hk'
    | ret => obtain rfl := hx; exact done hk'
    | exit i => exact hk'.elim
    | goto l => exact hk'.elim
    | pan d =>
      obtain ⟨v, rfl, hd⟩ := hx
      simp only [finXM] at hk'
      unfold panM at hk'
      split at hk'
      · obtain ⟨⟨rfl, hg⟩, h3⟩ := hk'
        show LeavesInM (Fx P) 0 P fn a'.tmps _ a'.defers (.panicking (pch v)) w'
        rw [hms']
        exact leaves_marks (by simp) _ _ hmk (fun w2 hd2 => ⟨S', _, ⟨v, rfl, hg, gnd_rd _ hg hd⟩, fin h3 hd2⟩)
      · exact hk'.elim
  · show LeavesInM (Fx P) 0 P fn a'.tmps _ a'.defers (.panicking ch) w'
    exact (hjp ch S' w' hj).elim
end
end Go.Tn
