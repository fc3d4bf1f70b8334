/- Symbolic data, and what the operations do to it. -/
import Derived.Test.YtlabdffgcciepaaGreatDoorTzb
set_option linter.unusedSimpArgs false
set_option linter.unusedVariables false
set_option linter.unusedSectionVars false
namespace Go.Tn
open Go.RowKit
section
variable {P : Program} [Fen P] {C : Spec} {B : Base} [LB P B] {N n : Nat} {ro : Option Nat} {dr : Bool} {ops : Array Oper} {S S' : Ex} {p : Pl} {T : Nat → D} {H : Hp} {U : Us} {a : Act} {w w' : World} {dst : Option Nat} {K : Kt}
def cK (d : D) (a b : Prop) : Prop := match d with | .bool t => (t = true → a) ∧ (t = false → b) | _ => False
def seqX (e : X) (T : Nat → D) (H : Hp) (U : Us) (n : Kt) (k : X → Kt) : Prop :=
  match e with | .normal => n T H U | .exit i => k (.exit i) T H U | .goto l => k (.goto l) T H U | .ret => k .ret T H U | .pan d => k (.pan d) T H U
def blkX (id : Nat) (e : X) (T : Nat → D) (H : Hp) (U : Us) (k : X → Kt) : Prop :=
  match e with | .exit i => if i = id then k .normal T H U else k (.exit i) T H U | .normal => k .normal T H U | .goto l => k (.goto l) T H U | .ret => k .ret T H U | .pan d => k (.pan d) T H U
def lpX (I : Kt) (e : X) (T : Nat → D) (H : Hp) (U : Us) (k : X → Kt) : Prop :=
  match e with | .normal => I T H U | .exit i => k (.exit i) T H U | .goto l => k (.goto l) T H U | .ret => k .ret T H U | .pan d => k (.pan d) T H U
def stat : D → Prop
  | .loc _ _ => True
  | .vec _ _ => False
  | .vptr _ _ _ _ _ => False
  | .lmap _ => False
  | .vsub _ _ _ _ _ => False
  | .yld _ => False
  | d => inO (fun _ => false) d
def statL : List (Nat × D) → Prop
  | [] => True
  | (_, d) :: r => stat d ∧ statL r
def locD (d : D) (r : List Nat) : List Nat := match d with | .loc i _ => i :: r | _ => r
def locs : List (Nat × D) → List Nat
  | [] => []
  | (_, d) :: r => locD d (locs r)
def putPs (T : Nat → D) : List Nat → List D → Nat → D
  | p :: ps, d :: ds => putPs (upd T p d) ps ds
  | _, _ => T
abbrev Vc := List Nat → (Nat → D) → Hp → Us → (X → Kt) → Prop
def asgX (q : Kt) (e : X) (T : Nat → D) (H : Hp) (U : Us) : Prop := match e with | .normal => isRec (H 998) ∧ q T H U | _ => False
def rngX (tm : Prop) (L0 : List Nat) (t0 : List (Nat × D)) (next : Hp → Us → Prop) (k : X → Kt) (e : X) (_T : Nat → D) (H : Hp) (U : Us) : Prop :=
  match e with
  | .normal => isRec (H 998) ∧ next H U
  | .exit i => isRec (H 998) ∧ k (.exit i) (mkT t0) (upd H 998 none) U
  | .ret => isRec (H 998) ∧ k .ret (mkT t0) (upd H 998 none) U
  | .pan d => tm ∧ isRec (H 998) ∧ k (.pan d) (mkT t0) (upd H 998 none) U
  | .goto _ => False
def rngB (tm : Prop) (va vb : Vc) (L0 : List Nat) (t0 : List (Nat × D)) (next : Hp → Us → Prop) (T : Nat → D) (H : Hp) (U : Us) (k : X → Kt) : Prop :=
  va (998 :: (locs t0 ++ L0)) T H U (fun e T H U => asgX (fun T H U => vb (998 :: (locs t0 ++ L0)) T H U (rngX tm L0 t0 next k)) e T H U)
def neP : List Nat → Prop | [] => False | _ :: _ => True
def lenY (en : Bool) (ys : List (List D)) (ps : List Nat) (q : Nat → Prop) : Prop :=
  match en with
  | false => (∀ y ∈ ys, y.length = ps.length) ∧ neP ps
  | true => (∀ y ∈ ys.dropLast, y.length = ps.length) ∧ ¬ q (ys.length - 1)
theorem lenY_at {en : Bool} {ys : List (List D)} {ps : List Nat} {q : Nat → Prop} (h : lenY en ys ps q) {j : Nat} (hq : q j) (hj : j < ys.length) : (ys.getD j []).length = ps.length := by
  have e : ys.getD j [] = ys[j] := by rw [List.getD_eq_getElem?_getD, List.getElem?_eq_getElem hj]; rfl
  rw [e]
  cases en with
  | false => exact h.1 _ (List.getElem_mem hj)
  | true =>
    have hlt : j < ys.length - 1 := by
      rcases Nat.lt_or_ge j (ys.length - 1) with h1 | h1
      · exact h1
      · exact absurd hq (by rw [show j = ys.length - 1 by omega]; exact h.2)
    refine h.1 _ ?_
    have : ys.dropLast[j]'(by simpa using hlt) = ys[j] := List.getElem_dropLast _
    rw [← this]; exact List.getElem_mem _
theorem lenY_en {en : Bool} {ys : List (List D)} {ps : List Nat} {q : Nat → Prop} (h : lenY en ys ps q) (he : endY ys = true) : ¬ q (ys.length - 1) := by
  cases en with
  | true => exact h.2
  | false =>
    unfold endY at he
    split at he
    · rename_i hl
      have := h.1 [] (List.mem_of_getLast? hl)
      cases ps with
      | nil => exact h.2.elim
      | cons _ _ => cases this
    · cases he
structure RngI (σ : Type) where
  t0 : List (Nat × D)
  o : Nat → σ → List (Nat × LObj)
  Inv : Nat → σ → Prop
  s0 : σ
def rngI (tm : Prop) (en : Bool) (L0 : List Nat) (ys : List (List D)) (ps : List Nat) (T : Nat → D) (H : Hp) (U : Us) (va vb : Vc) (k : X → Kt) : Prop :=
  ∃ (σ : Type) (t0 : List (Nat × D)) (o : Nat → σ → List (Nat × LObj)) (Inv : Nat → σ → Prop) (s0 : σ),
    (lenY en ys ps (fun j => ∃ s, Inv j s) ∧ statL t0 ∧ (∀ k s, Inv k s → plainL (o k s))) ∧
    ((entT U (mkU (o 0 s0)) T t0 ∧ entO U (mkU (o 0 s0)) H (o 0 s0)) ∧ allU (mkU (o 0 s0)) (locs t0 ++ L0)) ∧ Inv 0 s0 ∧
    (∀ j s, Inv j s → j < ys.length → rngB tm va vb L0 t0 (fun H U => ∃ s', (entO U (mkU (o (j + 1) s')) H (o (j + 1) s') ∧ allU (mkU (o (j + 1) s')) (locs t0 ++ L0)) ∧ Inv (j + 1) s')
      (putPs (mkT t0) ps (ys.getD j [])) (upd (mkH (o j s)) 998 (some .lrec)) (upd (mkU (o j s)) 998 true) k) ∧
    ∀ s, Inv ys.length s → k .normal (mkT t0) (mkH (o ys.length s)) (mkU (o ys.length s))
def rngS (tm : Prop) (en : Bool) (L0 : List Nat) (sp : Prop × Out) (q : Prop) (ps : List Nat) (T : Nat → D) (H : Hp) (U : Us) (va vb : Vc) (k : X → Kt) : Prop :=
  match sp.2 with
  | .seq ys => (q ∧ sp.1) ∧ rngI tm en L0 ys ps T H U va vb k
  | _ => False
def rngV (P : Program) [Fen P] (C : Spec) (L0 : List Nat) (d : D) (ps : List Nat) (T : Nat → D) (H : Hp) (U : Us) (va vb : Vc) (k : X → Kt) : Prop :=
  match d with
  | .fn f [] caps => rngS (tame P) (isJ C.js 3998) L0 (C.c f (cvs H caps) []) (news H caps ∧ St P C f) ps T (frzs H caps) U va vb k
  | _ => False
def beg : Code → Nat
  | .region i _ _ => i
  | .seq a _ => beg a
  | _ => 1000000
def begS : Code → Nat
  | .seq a _ => beg a
  | .region i _ _ => 5000 + i
  | _ => 1000000
def regL (P : Program) [Fen P] (C : Spec) (id : Nat) (dr : Bool) (ops : Array Oper) (T : Nat → D) (H : Hp) (U : Us) (k : X → Kt) : Prop :=
  match dr && isJ C.js (9000 + id) with
  | false => opsK P C dr ops ops.toList k T H U
  | true => lastA ops = true ∧ opsK P C true ops (iniL ops.toList) (lstK P C ops (lasL ops.toList) k) T H U
def regZ (P : Program) [Fen P] (C : Spec) (id : Nat) (dr : Bool) (ops : Array Oper) (T : Nat → D) (H : Hp) (U : Us) (k : X → Kt) : Prop :=
  match dr && isJ C.js (8000 + id) with
  | false => regL P C id dr ops T H U k
  | true => frsZ H ops.toList ∧ opsK P C true ops (fR ops.toList) (zwK P C ops ops.toList k) T H U
def regK (P : Program) [Fen P] (C : Spec) (id : Nat) (dr : Bool) (ops : Array Oper) (T : Nat → D) (H : Hp) (U : Us) (k : X → Kt) : Prop :=
  match dr && isJ C.js (7000 + id) with
  | false => regZ P C id dr ops T H U k
  | true => ∃ t, chkTr ops ops.size t (Array.replicate ops.size false) = true ∧ trK P C ops (k .normal) t T H U
def regV (P : Program) [Fen P] (C : Spec) (id : Nat) (dr : Bool) (ops : Array Oper) (T : Nat → D) (H : Hp) (U : Us) (k : X → Kt) : Prop :=
  match dr && isJ C.js (6000 + id) with
  | false => regK P C id dr ops T H U k
  | true => opsK P C true ops (fV ops.toList) (nK (opsW P C ops (fU ops.toList) (k .normal))) T H U
def regC (P : Program) [Fen P] (C : Spec) (id : Nat) (dr : Bool) (ops : Array Oper) (T : Nat → D) (H : Hp) (U : Us) (k : X → Kt) : Prop :=
  match dr && isJ C.js (4000 + id) with
  | false => regV P C id dr ops T H U k
  | true => (∃ m, (m ≤ ops.toList.length ∧ chkVc ops m = true) ∧ opsK P C true ops (fV (ops.toList.take m)) (nK (opsW P C ops (fU (ops.toList.take m)) (fun T H U => opsK P C false ops (ops.toList.drop m) k T H U))) T H U) ∨
      ∃ m K, (m ≤ ops.toList.length ∧ chkZc ops m = true) ∧ frsZ (rmv K H) (ops.toList.take m) ∧ opsK P C true ops (fR (ops.toList.take m)) (zvK P C ops (ops.toList.take m) (kee K H) (nK (fun T H U => opsK P C false ops (ops.toList.drop m) k T H U))) T (rmv K H) U
def unr (B : (X → Kt) → Kt) (k : X → Kt) : Nat → Kt
  | 0 => fun _ _ _ => False
  | n + 1 => B (fun e T H U => lpX (unr B k n) e T H U k)
def scpX (e : X) (T : Nat → D) (H : Hp) (U : Us) (k : X → Kt) : Prop :=
  match e with | .exit i => k (.exit i) T H U | .normal => k .normal T H U | .goto _ => False | .ret => k .ret T H U | .pan d => k (.pan d) T H U
def vc (P : Program) [Fen P] (C : Spec) : Code → List Nat → (Nat → D) → Hp → Us → (X → Kt) → Prop
  | .skip, _, T, H, U, k => k .normal T H U
  | .region id ops dr, _, T, H, U, k => regC P C id dr ops T H U k
  | .seq a b, L0, T, H, U, k => match isJ C.js (begS a) with
    | false => vc P C a L0 T H U (fun e T H U => seqX e T H U (fun T H U => vc P C b L0 T H U k) k)
    | true => ∃ (σ : Type) (mk : σ → Hd) (Inv : σ → Prop), vc P C a L0 T H U (fun e T H U => seqX e T H U (fun T H U => ∃ s, entH L0 (mk s) T H U ∧ Inv s) k) ∧
        ∀ s, Inv s → vc P C b L0 (mkT (mk s).t) (mkH (mk s).o) (mkU (mk s).o) k
  | .cond c a b, L0, T, H, U, k => cK (ev T c) (vc P C a L0 T H U k) (vc P C b L0 T H U k)
  | .block id c, L0, T, H, U, k => vc P C c L0 T H U (fun e T H U => blkX id e T H U k)
  | .loop c, L0, T, H, U, k => (∃ (σ : Type) (mk : σ → Hd) (μ : σ → Nat) (s0 : σ), entH L0 (mk s0) T H U ∧
      ∀ s, vc P C c L0 (mkT (mk s).t) (mkH (mk s).o) (mkU (mk s).o) (fun e T H U => lpX (fun T H U => ∃ s', entH L0 (mk s') T H U ∧ μ s' < μ s) e T H U k)) ∨
      ∃ n, unr (fun k T H U => vc P C c L0 T H U k) k n T H U
  | .rangeFunc g ps a b, L0, T, H, U, k => rngV P C L0 (ev T g) ps.toList T H U (fun L T H U k => vc P C a L T H U k) (fun L T H U k => vc P C b L T H U k) k
  | .exit id, _, T, H, U, k => k (.exit id) T H U
  | .ret, _, T, H, U, k => k .ret T H U
  | .label _, _, T, H, U, k => k .normal T H U
  | .scope c, L0, T, H, U, k => vc P C c L0 T H U (fun e T H U => scpX e T H U k)
  | _, _, _, _, _, _ => False
def dstOk (N : Nat) (o : Oper) : Bool := match o.dst with | some i => Nat.blt i N | none => true
def noRg : Code → Bool
  | .seq a b => noRg a && noRg b
  | .cond _ a b => noRg a && noRg b
  | .block _ c => noRg c
  | .loop c => noRg c
  | .scope c => noRg c
  | .rangeFunc _ _ _ _ => false
  | _ => true
def chkC (js : List Nat) (N : Nat) : Code → Bool
  | .region id ops dr => ops.toList.all (dstOk N) && (!dr || (match isJ js (4000 + id) with | true => true | false => match isJ js (6000 + id) with | true => chkV ops | false => match isJ js (7000 + id) with | true => true | false => match isJ js (8000 + id) with | true => chkZ ops | false => chkR ops))
  | .seq a b => chkC js N a && chkC js N b
  | .cond _ a b => chkC js N a && chkC js N b
  | .block _ c => chkC js N c
  | .loop c => chkC js N c
  | .scope c => chkC js N c
  | .rangeFunc _ ps a b => (chkC js N a && noRg a) && (chkC js N b && noRg b) && ps.toList.all (Nat.blt · N)
  | _ => true
def XE (S : Ex) (w : World) : X → Exit → Prop
  | .normal, x => x = .normal
  | .exit i, x => x = .exit i
  | .goto l, x => x = .goto l
  | .ret, x => x = .ret
  | .pan d, x => ∃ v, x = .panic (pch v) ∧ Rd S w d noPl v
end
end Go.Tn
