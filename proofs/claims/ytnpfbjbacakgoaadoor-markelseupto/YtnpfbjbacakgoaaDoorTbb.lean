/-
  A prover for first-order facts about the program: symbolic data, what the operations do to it, and the law that joins them. By an AI agent.
-/
import Derived.Test.YtnpfbjbacakgoaaDoorTj
set_option linter.unusedSimpArgs false
set_option linter.unusedVariables false
set_option linter.unusedSectionVars false

/- Functions with two results, both in cells. -/
namespace Go.Tn
open Go.RowKit
section
variable {P : Program} {C : Spec} {S S' : Ex} {p : Pl} {w w' : World}
theorem run_lv {rt : Nat} {z : Ty} (hf : TyFact P rt z) {b : Nat} {w : World} {vs : List Value} {ty : TypeId}
    (hc : w.heap[b]? = some (.cells vs.toArray ty (0, 0))) (hl : vs.length = z.zero.length) :
    (loadVar rt ⟨b, 0, none⟩).run P w = .ok (if z.kind.agg = true then .agg vs.toArray else vs.headD undef) w := by
  have hcell : ∀ j v, vs[j]? = some v → w.cell? ⟨b, 0 + j, none⟩ = some v := fun j v hj => by
    simp only [World.cell?, hc, Nat.zero_add]
    simpa using hj
  unfold loadVar
  simp only [Sem.run_bind, Result.andThen_ok, hf.isAgg w]
  by_cases ha : z.kind.agg = true
  · have := run_loadCells_list (P := P) (w := w) ⟨b, 0, none⟩ vs (fun j v hj => by rw [addr_add]; exact hcell j v hj)
    simp [ha, hf.sizeOf w, ← hl, this, Sem.run_bind, Result.andThen]
  · have h1 : z.zero.length = 1 := by
      obtain ⟨z', _, _, hz⟩ := hf.zeroV w
      simp only [ha] at hz
      obtain ⟨v, h, _⟩ := hz
      simp [h]
    rw [h1] at hl
    match vs, hl, hcell with
    | [v], _, hcell =>
      have := hcell 0 v rfl
      simp only [Nat.add_zero] at this
      simp [ha, this, Sem.run_bind, Result.andThen]
theorem run_resC3 {fn : Func} {r q rt qt : Nat} {z y : Ty} (hf : TyFact P rt z) (hg : TyFact P qt y) (hr : fn.results = #[.cell r rt, .cell q qt]) {tmps : Array Value} {b d : Nat} (ht : tmps.getD r undef = .pointer (some ⟨b, 0, none⟩)) (hu : tmps.getD q undef = .pointer (some ⟨d, 0, none⟩)) {w : World} {vs us : List Value} {ty uy : TypeId}
    (hc : w.heap[b]? = some (.cells vs.toArray ty (0, 0))) (hl : vs.length = z.zero.length) (hd : w.heap[d]? = some (.cells us.toArray uy (0, 0))) (hm : us.length = y.zero.length) :
    (results fn tmps).run P w = .ok (.tuple #[(if z.kind.agg = true then .agg vs.toArray else vs.headD undef), (if y.kind.agg = true then .agg us.toArray else us.headD undef)]) w := by
  unfold results
  rw [hr]
  simp only [List.mapM_toArray, List.mapM_cons, List.mapM_nil, Sem.run_bind, Sem.run_map, ht, hu, asAddr, Result.andThen_ok, Sem.run_pure, run_lv hf hc hl, run_lv hg hd hm]
  rfl

def finCB3 (agg bgg : Bool) (n m : Nat) (o o2 : Option LObj) (out : Out) (H : Hp) : Prop := match o, o2 with | some (.blk cs _), some (.blk ds _) => (cs.length = n ∧ ds.length = m) ∧ finK out (.tup [mkD agg cs, mkD bgg ds]) H | _, _ => False
def finC3 (r q i j : Nat) (agg bgg : Bool) (n m : Nat) (out : Out) (e : X) (T : Nat → D) (H : Hp) (_U : Us) : Prop :=
  match e with
  | .normal => (locR (T r) i ∧ locR (T q) j) ∧ finCB3 agg bgg n m (H i) (H j) out H
  | .ret => (locR (T r) i ∧ locR (T q) j) ∧ finCB3 agg bgg n m (H i) (H j) out H
  | .pan d => panF out d
  | _ => False
theorem fcc3_of {f rt qt r q i j : Nat} {fn : Func} {c : Code} {caps args : List D} {out : Out} {z y : Ty} (hm : P.follows .mixedOrders = true) (hf : P.funcs[f]? = some fn) (hname : (fn.name == "runtime.NumGoroutine") = false)
    (hb : fn.body = some c) (hr : fn.results = #[.cell r rt, .cell q qt]) (hz : TyFact P rt z) (hy : TyFact P qt y) (hc : chkC C.js fn.ntmps c = true) (hns : ∀ ys, out ≠ .seq ys)
    (hk : M ⟨P, C, finC3 r q i j z.kind.agg y.kind.agg z.zero.length y.zero.length out, []⟩ c (argT 0 (args ++ caps)) (fun _ => none) (fun _ => false) []) : FC P f caps args out := by
  have hfs : (P.funcs[f]?).isSome = true := by rw [hf]; rfl
  have main : ∀ (S : Ex) (w : World) (cs vs : List Value), Laid P S w → (∀ b, 0 < S b → b < w.heap.size) → RdL S w caps noPl cs → RdL S w args noPl vs →
    CallsF P f (vs ++ cs).toArray w fun e w' => ∃ S', Below w.heap.size w w' ∧ (∀ b, b < w.heap.size → S' b = S b) ∧ (∀ b, 0 < S' b → b < w'.heap.size) ∧ EndRd w.heap.size S' w' out e := by
    intro S w cs vs hla hext h1 h2
    haveI : LB P (plainB S w) := ⟨fun S' w' h => hla.mono h⟩
    have hargs := rdL_append h2 h1
    have hlen := rdL_len hargs
    refine callsIn_of_wp_marks (F := Fx P) hf hb (fun _ => hfs) ?_
    have hR : R (plainB S w) fn.ntmps S noPl (argT 0 (args ++ caps)) (fun _ => none) (fun _ => false)
        { tmps := (vs ++ cs).toArray ++ Array.replicate (fn.ntmps - (vs ++ cs).toArray.size) undef, defers := [] } w :=
      ⟨args_rd hargs, by simp; omega, ⟨fun i o hi => by simp at hi, fun i j o o' g g' b hi => by simp at hi, fun i g hg => by simp [noPl] at hg, hext, fun _ _ _ _ => rfl, Nat.le_refl _, fun _ => SameOut.refl _ _ _, fun i ys d st hi => by simp at hi, fun i hi => by simp at hi, fun i ys d st g b hi => by simp at hi⟩,
        Marks.nil, Keep.refl _ _, fun i hi => (by cases hi)⟩
    have hk' : vc P C c (plainB S w).L0 (argT 0 (args ++ caps)) (fun _ => none) (fun _ => false) (finC3 r q i j z.kind.agg y.kind.agg z.zero.length y.zero.length out) := hk
    refine vc_sound (ro := none) hm c (fun h => by cases h) (fun h => by cases h) (.inr ⟨rfl, rfl, rfl⟩) hc hk' hR (fun e x S' p' T' H' U' a' w' hx hk' hR' => ?_) (fun _ _ _ _ h _ => h.elim)
    obtain ⟨⟨ms, hms, hmk⟩, _⟩ := hR'.dfs
    have hms' : a'.defers = ms := by rw [hms]; simp [plainB]
    have hbel := (hR'.hp.bel rfl).below
    have below2 : ∀ {w2 : World}, Dn w.heap.size w' w2 → Below w.heap.size w w2 := fun {w2} hd => ⟨hd.os.trans hbel.os, hd.tape.trans hbel.tape, hd.output.trans hbel.output, by rw [hd.size]; exact hbel.size, fun b hb => (hd.low b hb).trans (hbel.block b hb)⟩
    have done : (locR (T' r) i ∧ locR (T' q) j) ∧ finCB3 z.kind.agg y.kind.agg z.zero.length y.zero.length (H' i) (H' j) out H' → LeavesInM (Fx P) 0 P fn a'.tmps (fun e w' => ∃ S', Below w.heap.size w w' ∧ (∀ b, b < w.heap.size → S' b = S b) ∧ (∀ b, 0 < S' b → b < w'.heap.size) ∧ EndRd w.heap.size S' w' out e) a'.defers .returning w' := fun hk => by
      obtain ⟨⟨hl, hl2⟩, hk⟩ := hk
      have ht := hR'.tmp r
      rw [locR_eq hl] at ht
      simp only [Rd] at ht
      obtain ⟨g, hg, htv⟩ := ht
      have ht2 := hR'.tmp q
      rw [locR_eq hl2] at ht2
      simp only [Rd] at ht2
      obtain ⟨g2, hg2, htv2⟩ := ht2
      have one : ∀ {k : Nat} {g : G} {cs0 : List D} {fz : Bool} {z : Ty}, H' k = some (.blk cs0 fz) → p' k = some g → cs0.length = z.zero.length →
          ∃ (us : List Value) (ty : TypeId), w'.heap[g.ptr]? = some (.cells us.toArray ty (0, 0)) ∧ us.length = z.zero.length ∧ Rd S' w' (mkD z.kind.agg cs0) p' (if z.kind.agg = true then .agg us.toArray else us.headD undef) := by
        intro k g cs0 fz z ho hg hcl
        obtain ⟨g', hg', us, ty, hhb, _, _, hus, _, h1c⟩ := hR'.hp.obj k _ ho
        rw [hg] at hg'; cases hg'
        have hus' : RdL S' w' cs0 p' us := by
          cases fz
          · exact hus
          · exact RdL.mono (Keep.refl _ _) _ (PlLe.none _) hus
        refine ⟨us, ty, hhb, by rw [rdL_len hus', hcl], ?_⟩
        unfold mkD
        by_cases ha : z.kind.agg = true
        · simp only [ha, if_true, Rd]; exact ⟨us, rfl, hus', h1c⟩
        · simp only [ha, if_false, Bool.false_eq_true]
          cases cs0 with
          | nil => simp only [RdL] at hus'; subst hus'; simp [Rd]
          | cons c0 cs1 => obtain ⟨v, r', rfl, h1, _⟩ := hus'; simpa using h1
      unfold finCB3 at hk
      split at hk
      · rename_i o o2 cs0 fz ds0 fz2 ho ho2
        obtain ⟨⟨hcl, hcl2⟩, hk⟩ := hk
        obtain ⟨us, ty, hhb, hul, hv⟩ := one ho hg hcl
        obtain ⟨us2, ty2, hhb2, hul2, hv'⟩ := one ho2 hg2 hcl2
        have hv2 : Rd S' w' (.tup [mkD z.kind.agg cs0, mkD y.kind.agg ds0]) p' (.tuple #[(if z.kind.agg = true then .agg us.toArray else us.headD undef), (if y.kind.agg = true then .agg us2.toArray else us2.headD undef)]) := by
          simp only [Rd]
          exact ⟨[_, _], rfl, ⟨_, _, rfl, hv, ⟨_, _, rfl, hv', rfl⟩⟩⟩
        obtain ⟨S2, h1, h2, h3⟩ := finK_ok hR' rfl (fun _ => rfl) hns hv2 hk
        rw [hms']
        exact leaves_marks (by simp) _ _ hmk (fun w2 hd => ⟨_, run_resC3 hz hy hr htv htv2 (hd.keep _ _ hhb (fun x e => by cases e)) hul (hd.keep _ _ hhb2 (fun x e => by cases e)) hul2, S2, below2 hd, h1, fun b hb => by rw [hd.size]; exact h2 b hb, outRd_dn h3 hd⟩)
      · exact hk.elim
    cases e with
    | normal => obtain rfl := hx; exact done hk'
    | ret => obtain rfl := hx; exact done hk'
    | exit i => exact hk'.elim
    | goto l => exact hk'.elim
    | pan d =>
      obtain ⟨v, rfl, hd⟩ := hx
      simp only [finC3] at hk'
      unfold panF at hk'
      split at hk'
      · obtain ⟨rfl, hg⟩ := hk'
        show LeavesInM (Fx P) 0 P fn a'.tmps _ a'.defers (.panicking (pch v)) w'
        rw [hms']
        exact leaves_marks (by simp) _ _ hmk (fun w2 hd2 => ⟨S', below2 hd2, fun b hb => hR'.hp.old rfl b hb rfl, fun b hb => by rw [hd2.size]; exact hR'.hp.ext b hb, v, rfl, hg, gnd_rd _ hg hd⟩)
      · exact hk'.elim
  refine ⟨⟨fn, hf, hname, by rw [hb]; rfl⟩, ?_⟩
  cases out with
  | ret d => exact main
  | own e sz rows => exact main
  | seq ys => exact absurd rfl (hns ys)
  | pan d => exact main
end
end Go.Tn
