/-
  A prover for first-order facts about the program: symbolic data, what the operations do to it, and the law that joins them. By an AI agent.
-/
import Derived.Test.YtnpfbjbacakgoaaDoorTbb
set_option linter.unusedSimpArgs false
set_option linter.unusedVariables false
set_option linter.unusedSectionVars false

/- Functions that hand over objects and have their result in a cell. -/
namespace Go.Tn
open Go.RowKit
section
variable {P : Program} {C : Spec} {S S' : Ex} {p : Pl} {w w' : World}
def finMB (agg : Bool) (n : Nat) (o : Option LObj) (o1 : List (Nat × LObj)) (out : MOut) (H : Hp) (U : Us) : Prop := match o with | some (.blk cs _) => cs.length = n ∧ finMK o1 out (mkD agg cs) H U | _ => False
def finMC (r i : Nat) (agg : Bool) (n : Nat) (o1 : List (Nat × LObj)) (out : MOut) (e : X) (T : Nat → D) (H : Hp) (U : Us) : Prop :=
  match e with
  | .normal => locR (T r) i ∧ finMB agg n (H i) o1 out H U
  | .ret => locR (T r) i ∧ finMB agg n (H i) o1 out H U
  | .pan d => panM o1 out d H U
  | _ => False
/-- the contract of a function that changes objects, or hands over new ones; its result stands in a cell -/
theorem fcmc_of {f rt r i : Nat} {fn : Func} {c : Code} {all : List (Bool × D)} {o0 o1 : List (Nat × LObj)} {out : MOut} {z : Ty} (hm : P.follows .mixedOrders = true) (hf : P.funcs[f]? = some fn) (hname : (fn.name == "runtime.NumGoroutine") = false)
    (hb : fn.body = some c) (hr : fn.results = #[.cell r rt]) (hz : TyFact P rt z) (hc : chkC C.js fn.ntmps c = true) (hpl : plainL o1)
    (hk : M ⟨P, C, finMC r i z.kind.agg z.zero.length o1 out, fltU (mkU o1) (idsO o0)⟩ c (argT 0 (all.map (·.2))) (mkH o0) (mkU o0) []) : FCM P f all o0 o1 out := by
  have hfs : (P.funcs[f]?).isSome = true := by rw [hf]; rfl
  refine ⟨⟨fn, hf, hname, by rw [hb]; rfl⟩, fun B S p w vs hit hd0 hnm hjp hn0 hKp hla hL0 hlk hh hargs => ?_⟩
  haveI : LB P B := ⟨fun S' w' h => by rw [hKp] at h; exact hla.mono h⟩
  have hargs' := rdF_rdL hargs
  have hlen := rdL_len hargs'
  refine callsIn_of_wp_marks (F := Fx P) hf hb (fun _ => hfs) ?_
  have hplH : ∀ i o, mkH o1 i = some o → plainO o := (plainL_spec hpl).2.2
  have hR : R B fn.ntmps S p (argT 0 (all.map (·.2))) (mkH o0) (mkU o0) { tmps := vs.toArray ++ Array.replicate (fn.ntmps - vs.toArray.size) undef, defers := [] } w := by
    have := args_rd (m := fn.ntmps) (caps := []) (cs := []) (args := all.map (·.2)) (vs := vs) (p := p) (S := S) (w := w) (by simpa using hargs')
    simp only [List.append_nil] at this
    exact ⟨this, by simp; omega, hh, by rw [hd0]; exact Marks.nil, by rw [hKp]; exact Keep.refl _ _, hlk⟩
  have hk' : vc P C c B.L0 (argT 0 (all.map (·.2))) (mkH o0) (mkU o0) (finMC r i z.kind.agg z.zero.length o1 out) := by rw [hL0]; exact hk
  refine vc_sound (ro := none) hm c (fun h => by rw [hit] at h; cases h) (fun h => by rw [hit] at h; cases h) (.inr ⟨rfl, hit, hnm⟩) hc hk' hR (fun e x S' p' T' H' U' a' w' hx hk' hR' => ?_) (fun ch S' a' w' hj hd => ?_)
  · obtain ⟨⟨ms, hms, hmk⟩, _⟩ := hR'.dfs
    have hms' : a'.defers = ms := by rw [hms, hd0]; simp
    have fin : entO U' (mkU o1) H' o1 → ∀ {w2 : World}, Dn B.n0 w' w2 → Heap B S' (cutP p' (mkU o1)) (mkH o1) (mkU o1) w2 ∧ Keep S S' w w2 ∧ ∀ i ∈ B.L0, ∃ g, cutP p' (mkU o1) i = some g ∧ GLe (B.q i) g := fun hO w2 hd => by
      refine ⟨(hR'.hp.cut hO).dn hplH hd, ?_, fun i hi => ?_⟩
      · have hkp := hR'.kp
        rw [hKp] at hkp
        exact hkp.dn (by rw [← hn0]; exact hd)
      · obtain ⟨g, hg, e⟩ := hR'.lk i hi
        have hu : mkU o1 i = true := by rw [hL0] at hi; exact (fltU_mem.1 hi).2
        exact ⟨g, cutP_in hu hg, e⟩
    have done : locR (T' r) i ∧ finMB z.kind.agg z.zero.length (H' i) o1 out H' U' → LeavesInM (Fx P) 0 P fn a'.tmps (fun e w' => ∃ S' p', EndM S' w' p' out e ∧ Heap B S' p' (mkH o1) (mkU o1) w' ∧ Keep S S' w w' ∧ ∀ i ∈ B.L0, ∃ g, p' i = some g ∧ GLe (B.q i) g) a'.defers .returning w' := fun hk => by
      obtain ⟨hl, hk⟩ := hk
      have ht := hR'.tmp r
      rw [locR_eq hl] at ht
      simp only [Rd] at ht
      obtain ⟨g, hg, htv⟩ := ht
      unfold finMB at hk
      split at hk
      · rename_i cs0 fz ho
        obtain ⟨hcl, hk⟩ := hk
        obtain ⟨g', hg', us, ty, hhb, _, _, hus, _, h1c⟩ := hR'.hp.obj i _ ho
        rw [hg] at hg'; cases hg'
        have hus' : RdL S' w' cs0 p' us := by
          cases fz
          · exact hus
          · exact RdL.mono (Keep.refl _ _) _ (PlLe.none _) hus
        have hul : us.length = z.zero.length := by rw [rdL_len hus', hcl]
        have hv : Rd S' w' (mkD z.kind.agg cs0) p' (if z.kind.agg = true then .agg us.toArray else us.headD undef) := by
          unfold mkD
          by_cases ha : z.kind.agg = true
          · simp only [ha, if_true, Rd]; exact ⟨us, rfl, hus', h1c⟩
          · simp only [ha, if_false, Bool.false_eq_true]
            cases cs0 with
            | nil => simp only [RdL] at hus'; subst hus'; simp [Rd]
            | cons c0 cs1 => obtain ⟨v, r', rfl, h1, _⟩ := hus'; simpa using h1
        unfold finMK at hk
        split at hk
        · obtain ⟨⟨h1, h2⟩, h3⟩ := hk
          rw [hms']
          refine leaves_marks (by simp) _ _ hmk (fun w2 hd => ⟨_, run_resC hz hr htv (hd.keep _ _ hhb (fun x e => by cases e)) hul, S', cutP p' (mkU o1), ?_, fin h3 hd⟩)
          exact Rd.monoW (hd.weak S') _ (PlLe.refl _) (wkN_ok hR'.hp.use h1 h2 hv)
        · exact hk.elim
      · exact hk.elim
    cases e with
    | normal => obtain rfl := hx; exact done hk'
    | ret => obtain rfl := hx; exact done hk'
    | exit i => exact hk'.elim
    | goto l => exact hk'.elim
    | pan d =>
      obtain ⟨v, rfl, hd⟩ := hx
      simp only [finMC] at hk'
      unfold panM at hk'
      split at hk'
      · obtain ⟨⟨rfl, hg⟩, h3⟩ := hk'
        show LeavesInM (Fx P) 0 P fn a'.tmps _ a'.defers (.panicking (pch v)) w'
        rw [hms']
        exact leaves_marks (by simp) _ _ hmk (fun w2 hd2 => ⟨S', _, ⟨v, rfl, hg, gnd_rd _ hg hd⟩, fin h3 hd2⟩)
      · exact hk'.elim
  · show LeavesInM (Fx P) 0 P fn a'.tmps _ a'.defers (.panicking ch) w'
    exact (hjp ch S' w' hj).elim
end
end Go.Tn
