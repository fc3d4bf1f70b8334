/- Symbolic data, and what the operations do to it. -/
import Derived.Test.YtlabdffgcciepaaGreatDoorTn29
set_option linter.unusedSimpArgs false
set_option linter.unusedVariables false
set_option linter.unusedSectionVars false
namespace Go.Tn
open Go.RowKit
structure Cx where
  P : Program
  [fen : Fen P]
  C : Spec
  fin : X → Kt
  L0 : List Nat
attribute [instance] Cx.fen
inductive Fr where
  | seq (c : Code)
  | blk (id : Nat)
  | lp (I : Kt)
  | asg (b : Code)
  | rng (L0 : List Nat) (t0 : List (Nat × D)) (next : Hp → Us → Prop)
  | lst (ops : Array Oper) (o : Option Oper)
  | zw (ops : Array Oper) (l : List Oper)
  | zv (ops : Array Oper) (l : List Oper) (Hw : Hp)
  | zo (H0 : Hp)
  | tr (ops : Array Oper) (t : Tr)
  | scp
  | wv (ops : Array Oper) (l : List Oper)
  | sb (H0 : Hp)
  | lu (c : Code) (n : Nat)
  | tl (ops : Array Oper) (l : List Oper)
def tlK (P : Program) [Fen P] (C : Spec) (ops : Array Oper) (l : List Oper) (k : X → Kt) : X → Kt := fun e => match e with | .normal => opsK P C false ops l k | _ => fun _ _ _ => False
def unw (x : Cx) : List Nat → List Fr → X → Kt
  | _, [] => x.fin
  | L0, .seq b :: st => fun e T H U => seqX e T H U (fun T H U => vc x.P x.C b L0 T H U (unw x L0 st)) (unw x L0 st)
  | L0, .blk id :: st => fun e T H U => blkX id e T H U (unw x L0 st)
  | L0, .lp I :: st => fun e T H U => lpX I e T H U (unw x L0 st)
  | L0, .asg b :: st => fun e T H U => asgX (fun T H U => vc x.P x.C b L0 T H U (unw x L0 st)) e T H U
  | _, .rng L t0 next :: st => rngX (tame x.P) L t0 next (unw x L st)
  | L0, .lst ops o :: st => lstK x.P x.C ops o (unw x L0 st)
  | L0, .zw ops l :: st => zwK x.P x.C ops l (unw x L0 st)
  | L0, .zv ops l Hw :: st => zvK x.P x.C ops l Hw (unw x L0 st)
  | L0, .zo H0 :: st => zoK H0 (unw x L0 st)
  | L0, .tr ops t :: st => nK (trK x.P x.C ops (unw x L0 st .normal) t)
  | L0, .scp :: st => fun e T H U => scpX e T H U (unw x L0 st)
  | L0, .wv ops l :: st => nK (opsW x.P x.C ops l (unw x L0 st .normal))
  | L0, .lu c n :: st => fun e T H U => lpX (unr (fun k T H U => vc x.P x.C c L0 T H U k) (unw x L0 st) n) e T H U (unw x L0 st)
  | L0, .tl ops l :: st => tlK x.P x.C ops l (unw x L0 st)
  | L0, .sb H1 :: st => nK (fun T H U => Sub H1 H ∧ unw x L0 st .normal T H U)
theorem unw_L (x : Cx) (M : List Nat) : ∀ (st : List Fr) (L : List Nat), unw { x with L0 := M } L st = unw x L st
  | [], _ => rfl
  | .seq b :: st, L => by funext e T H U; simp only [unw, unw_L x M st]
  | .blk id :: st, L => by funext e T H U; simp only [unw, unw_L x M st]
  | .lp I :: st, L => by funext e T H U; simp only [unw, unw_L x M st]
  | .asg b :: st, L => by funext e T H U; simp only [unw, unw_L x M st]
  | .rng L' t0 next :: st, L => by simp only [unw, unw_L x M st]
  | .lst ops o :: st, L => by simp only [unw, unw_L x M st]
  | .zw ops l :: st, L => by simp only [unw, unw_L x M st]
  | .zv ops l Hw :: st, L => by simp only [unw, unw_L x M st]
  | .zo H0 :: st, L => by simp only [unw, unw_L x M st]
  | .tr ops t :: st, L => by simp only [unw, unw_L x M st]
  | .scp :: st, L => by funext e T H U; simp only [unw, unw_L x M st]
  | .wv ops l :: st, L => by simp only [unw, unw_L x M st]
  | .tl ops l :: st, L => by simp only [unw, unw_L x M st]
  | .sb H1 :: st, L => by simp only [unw, unw_L x M st]
  | .lu c n :: st, L => by funext e T H U; simp only [unw, unw_L x M st]
def M (x : Cx) (c : Code) (T : Nat → D) (H : Hp) (U : Us) (st : List Fr) : Prop := vc x.P x.C c x.L0 T H U (unw x x.L0 st)
def Sq (x : Cx) (j : Bool) (a b : Code) (T : Nat → D) (H : Hp) (U : Us) (st : List Fr) : Prop :=
  match j with
  | false => M x a T H U (.seq b :: st)
  | true => ∃ (σ : Type) (mk : σ → Hd) (Inv : σ → Prop), M x a T H U (.lp (fun T H U => ∃ s, entH x.L0 (mk s) T H U ∧ Inv s) :: st) ∧ ∀ s, Inv s → M x b (mkT (mk s).t) (mkH (mk s).o) (mkU (mk s).o) st
def O (x : Cx) (dr : Bool) (ops : Array Oper) (os : List Oper) (T : Nat → D) (H : Hp) (U : Us) (st : List Fr) : Prop := opsK x.P x.C dr ops os (unw x x.L0 st) T H U
def LA (ops : Array Oper) : Prop := lastA ops = true
def Rg (x : Cx) (j : Bool) (l : List Oper) (T : Nat → D) (H : Hp) (U : Us) (st : List Fr) : Prop :=
  match j with
  | false => O x true l.toArray l T H U st
  | true => LA l.toArray ∧ O x true l.toArray (iniL l) T H U (.lst l.toArray (lasL l) :: st)
def Rz (x : Cx) (j : Bool) (id : Nat) (l : List Oper) (T : Nat → D) (H : Hp) (U : Us) (st : List Fr) : Prop :=
  match j with
  | false => Rg x (isJ x.C.js (9000 + id)) l T H U st
  | true => frsZ H l ∧ O x true l.toArray (fR l) T H U (.zw l.toArray l :: st)
def TC (ops : Array Oper) (t : Tr) : Prop := chkTr ops ops.size t (Array.replicate ops.size false) = true
def Tk (x : Cx) (ops : Array Oper) (t : Tr) (T : Nat → D) (H : Hp) (U : Us) (st : List Fr) : Prop := trK x.P x.C ops (unw x x.L0 st .normal) t T H U
def Tl (x : Cx) (dr : Bool) (ops : Array Oper) (r : Trs) (T : Nat → D) (H : Hp) (U : Us) (st : List Fr) : Prop := trsK x.P x.C ops dr (unw x x.L0 st .normal) r T H U
def To1 (x : Cx) (dr : Bool) (ops : Array Oper) (o : Option Oper) (t : Tr) (T : Nat → D) (H : Hp) (U : Us) (st : List Fr) : Prop := match o with | some o => O x dr ops [o] T H U (.tr ops t :: st) | none => False
def Ry (x : Cx) (j : Bool) (id : Nat) (l : List Oper) (T : Nat → D) (H : Hp) (U : Us) (st : List Fr) : Prop :=
  match j with
  | false => Rz x (isJ x.C.js (8000 + id)) id l T H U st
  | true => ∃ t, TC l.toArray t ∧ Tk x l.toArray t T H U st
def Rv (x : Cx) (j : Bool) (id : Nat) (l : List Oper) (T : Nat → D) (H : Hp) (U : Us) (st : List Fr) : Prop :=
  match j with
  | false => Ry x (isJ x.C.js (7000 + id)) id l T H U st
  | true => O x true l.toArray (fV l) T H U (.wv l.toArray (fU l) :: st)
def XC (l : List Oper) (m : Nat) : Prop := m ≤ l.length ∧ chkVc l.toArray m = true
def XZ (l : List Oper) (m : Nat) : Prop := m ≤ l.length ∧ chkZc l.toArray m = true
def Rc (x : Cx) (j : Bool) (id : Nat) (l : List Oper) (T : Nat → D) (H : Hp) (U : Us) (st : List Fr) : Prop :=
  match j with
  | false => Rv x (isJ x.C.js (6000 + id)) id l T H U st
  | true => (∃ m, XC l m ∧ O x true l.toArray (fV (l.take m)) T H U (.wv l.toArray (fU (l.take m)) :: .tl l.toArray (l.drop m) :: st)) ∨
    ∃ m K, XZ l m ∧ frsZ (rmv K H) (l.take m) ∧ O x true l.toArray (fR (l.take m)) T (rmv K H) U (.zv l.toArray (l.take m) (kee K H) :: .tl l.toArray (l.drop m) :: st)
def Wv (x : Cx) (ops : Array Oper) (l : List Oper) (T : Nat → D) (H : Hp) (U : Us) (st : List Fr) : Prop := opsW x.P x.C ops l (unw x x.L0 st .normal) T H U
def OV (x : Cx) (ops : Array Oper) (n : Nat) (o : Oper) (l : List Oper) (T : Nat → D) (H : Hp) (U : Us) (st : List Fr) : Prop := match n with | 0 => O x true ops (o :: fV l) T H U st | _ => O x true ops (fV l) T H U st
def WU (x : Cx) (ops : Array Oper) (n : Nat) (o : Oper) (l : List Oper) (T : Nat → D) (H : Hp) (U : Us) (st : List Fr) : Prop :=
  match n with
  | 0 => Wv x ops (fU l) T H U st
  | 1 => O x true ops [o] T H U (.sb H :: .wv ops (fU l) :: st)
  | _ => O x true ops [o] T H U (.wv ops (fU l) :: st)
def OR (x : Cx) (ops : Array Oper) (b : Bool) (o : Oper) (l : List Oper) (T : Nat → D) (H : Hp) (U : Us) (st : List Fr) : Prop := match b with | true => O x true ops (fR l) T H U st | false => O x true ops (o :: fR l) T H U st
def OW (x : Cx) (ops : Array Oper) (b : Bool) (o : Oper) (l : List Oper) (T : Nat → D) (H : Hp) (U : Us) (st : List Fr) : Prop := match b with | true => O x true ops (o :: fW l) T H U st | false => O x true ops (fW l) T H U st
def E (x : Cx) (e : X) (T : Nat → D) (H : Hp) (U : Us) (st : List Fr) : Prop := unw x x.L0 st e T H U
def nx (x : Cx) (dr : Bool) (ops : Array Oper) (os : List Oper) (st : List Fr) : X → Kt := nxt (fun T H U => O x dr ops os T H U st) (unw x x.L0 st)
def Bk (x : Cx) (dr : Bool) (r : Res) (dst : Option Nat) (T : Nat → D) (H : Hp) (U : Us) (ops : Array Oper) (os : List Oper) (st : List Fr) : Prop :=
  bK x.P x.C dr r dst T H U (nx x dr ops os st)
def CX (x : Cx) (dr : Bool) (ps : List Nat) (f : Nat) (caps args : List D) (dst : Option Nat) (T : Nat → D) (H : Hp) (U : Us) (ops : Array Oper) (os : List Oper) (st : List Fr) : Prop :=
  callX x.P x.C dr ps f caps args dst T H U (nx x dr ops os st)
def Mk (x : Cx) (q : Prop) (raw : List D) (ms : MS) (dst : Option Nat) (T : Nat → D) (Hf : Hp) (U : Us) (ops : Array Oper) (os : List Oper) (st : List Fr) : Prop :=
  msK q raw ms dst T Hf U (nx x false ops os st)
def Ck (x : Cx) (dr none : Bool) (q : Prop) (o : Prop × Out) (dst : Option Nat) (T : Nat → D) (H Hf : Hp) (U : Us) (ops : Array Oper) (os : List Oper) (st : List Fr) : Prop :=
  (q ∧ o.1) ∧ outK dr (none || gndO o.2) o.2 dst T H Hf U (nx x dr ops os st)
def Ok (x : Cx) (dr ok : Bool) (o : Out) (dst : Option Nat) (T : Nat → D) (H Hf : Hp) (U : Us) (ops : Array Oper) (os : List Oper) (st : List Fr) : Prop :=
  outK dr ok o dst T H Hf U (nx x dr ops os st)
inductive GM where
  | yes
  | no
  | split (t : Nat) (b want : Bool)
  | bad
def gmB (t : Nat) (d : D) (want : Bool) : GM :=
  match d with
  | .bool b => .split t b want
  | .val v => match isB v with | true => .bad | false => .no
  | _ => .bad
def gmN (T : Nat → D) (t : Option Nat) (want : Bool) : GM := match t with | some t => gmB t (T t) want | none => .no
def gM (ops : Array Oper) (g : Option (Nat × Bool)) (T : Nat → D) : GM :=
  match g with
  | none => .yes
  | some (g, want) => gmN T ((ops[g]?).bind (·.dst)) want
def Im (f X : Prop) : Prop := f → X
def An (q X : Prop) : Prop := q ∧ (q → X)
def Nd (q X : Prop) : Prop := q ∧ X
theorem Im_t {X : Prop} : Im True X = X := by simp [Im]
theorem Im_d {f X : Prop} : Im f X = (f → X) := rfl
theorem An_t {X : Prop} : An True X = X := by simp [An]
theorem An_d {f X : Prop} : An f X = (f ∧ (f → X)) := rfl
theorem Nd_t {X : Prop} : Nd True X = X := by simp [Nd]
theorem Nd_d {f X : Prop} : Nd f X = (f ∧ X) := rfl
theorem Im_congr {f f' X : Prop} (h : f = f') : Im f X = Im f' X := by rw [h]
theorem An_congr {f f' X : Prop} (h : f = f') : An f X = An f' X := by rw [h]
theorem Nd_congr {f f' X : Prop} (h : f = f') : Nd f X = Nd f' X := by rw [h]
attribute [congr] Im_congr An_congr Nd_congr
def Gd (x : Cx) (dr : Bool) (g : GM) (o : Oper) (T : Nat → D) (H : Hp) (U : Us) (ops : Array Oper) (os : List Oper) (st : List Fr) : Prop :=
  match g with
  | .yes => Bk x dr (resO dr x.P o.op o.dst T H U) o.dst T H U ops os st
  | .no => skp x.P o.op T ∧ O x dr ops os (putO T o.dst (.val undef)) H U st
  | .split t b want => if b = want then Bk x dr (resO dr x.P o.op o.dst (upd T t (.bool want)) H U) o.dst (upd T t (.bool want)) H U ops os st else skp x.P o.op (upd T t (.bool !want)) ∧ O x dr ops os (putO (upd T t (.bool !want)) o.dst (.val undef)) H U st
  | .bad => False
def Cd (x : Cx) (d : D) (a b : Code) (T : Nat → D) (H : Hp) (U : Us) (st : List Fr) : Prop :=
  match d with
  | .bool t => if t = true then M x a T H U st else M x b T H U st
  | _ => False
section
variable {x : Cx} {dr : Bool} {c a b : Code} {T : Nat → D} {H Hf : Hp} {U : Us} {st : List Fr} {ops : Array Oper} {o : Oper} {os : List Oper} {id : Nat} {dst : Option Nat}
theorem M_skip : M x .skip T H U st = E x .normal T H U st := rfl
theorem M_region {l : List Oper} : M x (.region id l.toArray false) T H U st = O x false l.toArray l T H U st := rfl
theorem M_regionD {l : List Oper} : M x (.region id l.toArray true) T H U st = Rc x (isJ x.C.js (4000 + id)) id l T H U st := by
  simp only [M, vc, regC, regV, regK, regZ, Rc, Rv, Ry, Rz, regL, Rg, Bool.true_and]
  cases isJ x.C.js (4000 + id)
  · cases isJ x.C.js (6000 + id)
    · cases isJ x.C.js (7000 + id)
      · cases isJ x.C.js (8000 + id)
        · cases isJ x.C.js (9000 + id) <;> rfl
        · rfl
      · rfl
    · rfl
  · rfl
theorem Rc_no {l : List Oper} : Rc x false id l T H U st = Rv x (isJ x.C.js (6000 + id)) id l T H U st := rfl
theorem Rc_congr {j j' : Bool} {l : List Oper} (h : j = j') : Rc x j id l T H U st = Rc x j' id l T H U st := by rw [h]
theorem M_cut {l : List Oper} (m : Nat) (h1 : XC l m) (h2 : O x true l.toArray (fV (l.take m)) T H U (.wv l.toArray (fU (l.take m)) :: .tl l.toArray (l.drop m) :: st)) : Rc x true id l T H U st := .inl ⟨m, h1, h2⟩
theorem M_cutK {l : List Oper} (K : List Nat) (m : Nat) (h1 : XZ l m) (h2 : frsZ (rmv K H) (l.take m) ∧ O x true l.toArray (fR (l.take m)) T (rmv K H) U (.zv l.toArray (l.take m) (kee K H) :: .tl l.toArray (l.drop m) :: st)) : Rc x true id l T H U st := .inr ⟨m, K, h1, h2⟩
theorem M_cutZ {l : List Oper} (m : Nat) (h1 : XZ l m) (h2 : frsZ H (l.take m) ∧ O x true l.toArray (fR (l.take m)) T H U (.zv l.toArray (l.take m) (fun _ => none) :: .tl l.toArray (l.drop m) :: st)) : Rc x true id l T H U st := M_cutK [] m h1 h2
theorem E_n_tl {l : List Oper} : E x .normal T H U (.tl ops l :: st) = O x false ops l T H U st := rfl
theorem Rv_no {l : List Oper} : Rv x false id l T H U st = Ry x (isJ x.C.js (7000 + id)) id l T H U st := rfl
theorem Rv_yes {l : List Oper} : Rv x true id l T H U st = O x true l.toArray (fV l) T H U (.wv l.toArray (fU l) :: st) := rfl
theorem Rv_congr {j j' : Bool} {l : List Oper} (h : j = j') : Rv x j id l T H U st = Rv x j' id l T H U st := by rw [h]
theorem O_fV : O x true ops (fV (o :: os)) T H U st = OV x ops (clO o.op) o os T H U st := by
  unfold OV; simp only [fV, isR]; cases clO o.op <;> rfl
theorem O_fV0 : O x true ops (fV []) T H U st = E x .normal T H U st := rfl
theorem OV_0 : OV x ops 0 o os T H U st = O x true ops (o :: fV os) T H U st := rfl
theorem OV_1 : OV x ops 1 o os T H U st = O x true ops (fV os) T H U st := rfl
theorem OV_2 : OV x ops 2 o os T H U st = O x true ops (fV os) T H U st := rfl
theorem OV_congr {b b' : Nat} (h : b = b') : OV x ops b o os T H U st = OV x ops b' o os T H U st := by rw [h]
theorem WU_congr {b b' : Nat} (h : b = b') : WU x ops b o os T H U st = WU x ops b' o os T H U st := by rw [h]
theorem E_n_wv {l : List Oper} : E x .normal T H U (.wv ops l :: st) = Wv x ops l T H U st := rfl
theorem E_n_sb {H1 : Hp} : E x .normal T H U (.sb H1 :: st) = Nd (Sub H1 H) (E x .normal T H U st) := rfl
theorem Wv_n : Wv x ops (fU []) T H U st = E x .normal T H U st := rfl
theorem Wv_c : Wv x ops (fU (o :: os)) T H U st = WU x ops (clO o.op) o os T H U st := by
  unfold WU Wv
  simp only [fU, isR]
  have key : ∀ K : X → Kt, stepT x.P x.C ops o (K .normal) T H U = opsK x.P x.C true ops [o] K T H U := fun K => by
    refine propext ⟨fun h => ?_, fun h => ?_⟩
    · exact (opsK_T [o]).2 h
    · exact (opsK_T [o]).1 h
  cases hn : clO o.op with
  | zero => rfl
  | succ n =>
    cases n with
    | zero =>
      show opsW x.P x.C ops (o :: fU os) _ T H U = _
      simp only [opsW, hn]
      exact key (unw x x.L0 (.sb H :: .wv ops (fU os) :: st))
    | succ n =>
      show opsW x.P x.C ops (o :: fU os) _ T H U = _
      simp only [opsW, hn]
      exact key (unw x x.L0 (.wv ops (fU os) :: st))
theorem WU_0 : WU x ops 0 o os T H U st = Wv x ops (fU os) T H U st := rfl
theorem WU_1 : WU x ops 1 o os T H U st = O x true ops [o] T H U (.sb H :: .wv ops (fU os) :: st) := rfl
theorem WU_2 : WU x ops 2 o os T H U st = O x true ops [o] T H U (.wv ops (fU os) :: st) := rfl
def Un (x : Cx) (n : Nat) (c : Code) (T : Nat → D) (H : Hp) (U : Us) (st : List Fr) : Prop := unr (fun k T H U => vc x.P x.C c x.L0 T H U k) (unw x x.L0 st) n T H U
theorem Un_s {n : Nat} : Un x (n + 1) c T H U st = M x c T H U (.lu c n :: st) := rfl
theorem E_n_lu {n : Nat} : E x .normal T H U (.lu c n :: st) = Un x n c T H U st := rfl
theorem E_x_lu {n i : Nat} : E x (.exit i) T H U (.lu c n :: st) = E x (.exit i) T H U st := rfl
theorem E_r_lu {n : Nat} : E x .ret T H U (.lu c n :: st) = E x .ret T H U st := rfl
theorem E_p_lu {n : Nat} {d : D} : E x (.pan d) T H U (.lu c n :: st) = E x (.pan d) T H U st := rfl
theorem M_scope : M x (.scope a) T H U st = M x a T H U (.scp :: st) := rfl
theorem M_label : M x (.label id) T H U st = E x .normal T H U st := rfl
theorem E_n_scp : E x .normal T H U (.scp :: st) = E x .normal T H U st := rfl
theorem E_x_scp {j : Nat} : E x (.exit j) T H U (.scp :: st) = E x (.exit j) T H U st := rfl
theorem E_r_scp : E x .ret T H U (.scp :: st) = E x .ret T H U st := rfl
theorem E_p_scp {d : D} : E x (.pan d) T H U (.scp :: st) = E x (.pan d) T H U st := rfl
theorem Ry_no {l : List Oper} : Ry x false id l T H U st = Rz x (isJ x.C.js (8000 + id)) id l T H U st := rfl
theorem Ry_congr {j j' : Bool} {l : List Oper} (h : j = j') : Ry x j id l T H U st = Ry x j' id l T H U st := by rw [h]
theorem M_tree {l : List Oper} (t : Tr) (h1 : TC l.toArray t) (h2 : Tk x l.toArray t T H U st) : Ry x true id l T H U st := ⟨t, h1, h2⟩
theorem Tk_leaf : Tk x ops .leaf T H U st = E x .normal T H U st := by simp only [Tk, trK, E]
theorem Tk_node {r : Trs} : Tk x ops (.node r) T H U st = Tl x true ops r T H U st := by simp only [Tk, trK, Tl]
theorem Tk_nodeF {r : Trs} : Tk x ops (.nodeF r) T H U st = Tl x false ops r T H U st := by simp only [Tk, trK, Tl]
theorem Tk_por {i : Nat} {t : Tr} : Tk x ops (.por i t) T H U st = To1 x true ops ops[i]? t T H U st := by
  simp only [Tk, trK, To1]
  cases ops[i]? with
  | none => rfl
  | some o =>
    simp only [trO, O, opsK]
    have e : ∀ k : Kt, nxt (nK k .normal) (nK k) = nK k := fun k => by funext e; cases e <;> rfl
    simp only [unw, e]
theorem Tl_nil {dr : Bool} : Tl x dr ops .nil T H U st = True := by simp only [Tl, trsK]
theorem Tl_cons {dr : Bool} {i : Nat} {t : Tr} {r : Trs} : Tl x dr ops (.cons i t r) T H U st = (To1 x dr ops ops[i]? t T H U st ∧ Tl x dr ops r T H U st) := by
  simp only [Tl, trsK, To1]
  congr 1
  cases ops[i]? with
  | none => rfl
  | some o =>
    simp only [trO, O, opsK]
    have e : ∀ k : Kt, nxt (nK k .normal) (nK k) = nK k := fun k => by funext e; cases e <;> rfl
    simp only [unw, e]
theorem To1_s {dr : Bool} {t : Tr} : To1 x dr ops (some o) t T H U st = O x dr ops [o] T H U (.tr ops t :: st) := rfl
theorem E_n_tr {t : Tr} : E x .normal T H U (.tr ops t :: st) = Tk x ops t T H U st := rfl
theorem To1_congr {dr : Bool} {o o' : Option Oper} {t : Tr} (h : o = o') : To1 x dr ops o t T H U st = To1 x dr ops o' t T H U st := by rw [h]
theorem Rz_no {l : List Oper} : Rz x false id l T H U st = Rg x (isJ x.C.js (9000 + id)) l T H U st := rfl
theorem Rz_yes {l : List Oper} : Rz x true id l T H U st = (frsZ H l ∧ O x true l.toArray (fR l) T H U (.zw l.toArray l :: st)) := rfl
theorem Rz_congr {j j' : Bool} {l : List Oper} (h : j = j') : Rz x j id l T H U st = Rz x j' id l T H U st := by rw [h]
theorem O_fR : O x true ops (fR (o :: os)) T H U st = OR x ops (wOp o.op) o os T H U st := by
  unfold OR; simp only [fR]; cases wOp o.op <;> rfl
theorem O_fR0 : O x true ops (fR []) T H U st = E x .normal T H U st := rfl
theorem O_fW : O x true ops (fW (o :: os)) T H U st = OW x ops (wOp o.op) o os T H U st := by
  unfold OW; simp only [fW]; cases wOp o.op <;> rfl
theorem O_fW0 : O x true ops (fW []) T H U st = E x .normal T H U st := rfl
theorem OR_t : OR x ops true o os T H U st = O x true ops (fR os) T H U st := rfl
theorem OR_f : OR x ops false o os T H U st = O x true ops (o :: fR os) T H U st := rfl
theorem OW_t : OW x ops true o os T H U st = O x true ops (o :: fW os) T H U st := rfl
theorem OW_f : OW x ops false o os T H U st = O x true ops (fW os) T H U st := rfl
theorem OR_congr {b b' : Bool} (h : b = b') : OR x ops b o os T H U st = OR x ops b' o os T H U st := by rw [h]
theorem OW_congr {b b' : Bool} (h : b = b') : OW x ops b o os T H U st = OW x ops b' o os T H U st := by rw [h]
theorem E_n_zv {l : List Oper} {Hw : Hp} : E x .normal T H U (.zv ops l Hw :: st) = O x true ops (fW l) T Hw U (.zo H :: st) := rfl
theorem E_n_zw {l : List Oper} : E x .normal T H U (.zw ops l :: st) = O x true ops (fW l) T (fun _ => none) U (.zo H :: st) := rfl
theorem E_n_zo {H0 : Hp} : E x .normal T H U (.zo H0 :: st) = E x .normal T (ovl H0 H) U st := rfl
theorem ovl_at {H0 Hw : Hp} {i j : Nat} {o : LObj} : ovl H0 (upd Hw i (some o)) j = if j = i then some o else ovl H0 Hw j := by
  rw [← ovl_upd]; rfl
theorem ovl_at0 {H0 : Hp} {j : Nat} : ovl H0 (fun _ => none) j = H0 j := rfl
theorem frsZ_c {H : Hp} {l : List Oper} : frsZ H (o :: l) = (freeZ (wOp o.op) o.dst H ∧ frsZ H l) := rfl
theorem frsZ_n {H : Hp} : frsZ H [] = True := rfl
theorem Rg_no {l : List Oper} : Rg x false l T H U st = O x true l.toArray l T H U st := rfl
theorem Rg_yes {l : List Oper} : Rg x true l T H U st = (LA l.toArray ∧ O x true l.toArray (iniL l) T H U (.lst l.toArray (lasL l) :: st)) := rfl
theorem O_ini {a b : Oper} {r : List Oper} : O x dr ops (iniL (a :: b :: r)) T H U st = O x dr ops (a :: iniL (b :: r)) T H U st := rfl
theorem O_ini1 {a : Oper} : O x dr ops (iniL [a]) T H U st = E x .normal T H U st := rfl
theorem E_n_las {a b : Oper} {r : List Oper} : E x .normal T H U (.lst ops (lasL (a :: b :: r)) :: st) = E x .normal T H U (.lst ops (lasL (b :: r)) :: st) := rfl
theorem E_n_las1 {a : Oper} : E x .normal T H U (.lst ops (lasL [a]) :: st) = O x false ops [a] T H U st := by
  have e : unw x x.L0 st = nxt (fun T H U => O x false ops [] T H U st) (unw x x.L0 st) := by funext e; cases e <;> rfl
  show step x.P x.C false ops a (unw x x.L0 st) T H U = step x.P x.C false ops a (nxt (fun T H U => O x false ops [] T H U st) (unw x x.L0 st)) T H U
  rw [← e]
theorem Rg_congr {j j' : Bool} {l : List Oper} (h : j = j') : Rg x j l T H U st = Rg x j' l T H U st := by rw [h]
theorem M_seq : M x (.seq a b) T H U st = Sq x (isJ x.C.js (begS a)) a b T H U st := by
  simp only [M, vc, Sq]
  cases isJ x.C.js (begS a) <;> rfl
theorem Sq_no : Sq x false a b T H U st = M x a T H U (.seq b :: st) := rfl
theorem M_join {σ : Type} (mk : σ → Hd) (Inv : σ → Prop) (h1 : M x a T H U (.lp (fun T H U => ∃ s, entH x.L0 (mk s) T H U ∧ Inv s) :: st)) (h2 : ∀ s, Inv s → M x b (mkT (mk s).t) (mkH (mk s).o) (mkU (mk s).o) st) : Sq x true a b T H U st :=
  ⟨σ, mk, Inv, h1, h2⟩
theorem M_cond {y : Operand} : M x (.cond y a b) T H U st = Cd x (ev T y) a b T H U st := by
  simp only [M, vc, Cd, cK]
  split
  · rename_i t ht
    rw [ht]
    cases t <;> simp [M]
  · rename_i hn
    split
    · rename_i t ht; exact absurd ht (hn t)
    · rfl
theorem M_block : M x (.block id a) T H U st = M x a T H U (.blk id :: st) := rfl
theorem M_exit : M x (.exit id) T H U st = E x (.exit id) T H U st := rfl
theorem M_ret : M x .ret T H U st = E x .ret T H U st := rfl
theorem O_nil : O x dr ops [] T H U st = E x .normal T H U st := rfl
theorem upd_self {t : Nat} {d : D} (h : T t = d) : upd T t d = T := by
  funext j; by_cases e : j = t
  · subst e; rw [upd_same, h]
  · rw [upd_ne _ _ e]
theorem O_cons : O x dr ops (o :: os) T H U st = Gd x dr (gM ops o.guard T) o T H U ops os st := by
  simp only [O, opsK, step, gvT, gM]
  cases o.guard with
  | none => rfl
  | some q =>
    obtain ⟨g, want⟩ := q
    simp only [gN, gmN]
    cases (ops[g]?).bind (·.dst) with
    | none => rfl
    | some t =>
      simp only [gB, gmB]
      cases ht : T t <;> try rfl
      · rename_i b
        simp only [gK, Gd, Bk]
        by_cases hb : b = want
        · subst hb
          rw [upd_self ht, if_pos rfl]
          simp only [nx, O, true_implies, Bool.eq_not_self, false_implies, and_true]
        · have : b = !want := by cases b <;> cases want <;> simp_all
          subst this
          rw [upd_self ht, if_neg (by cases want <;> simp)]
          simp [O, nxt]
      · rename_i v
        show gK (match isB v with | true => GV.bad | false => GV.no) _ _ = Gd x dr (match isB v with | true => GM.bad | false => GM.no) o T H U ops os st
        cases isB v <;> rfl
theorem Gd_yes : Gd x dr .yes o T H U ops os st = Bk x dr (resO dr x.P o.op o.dst T H U) o.dst T H U ops os st := rfl
theorem Gd_no : Gd x dr .no o T H U ops os st = Nd (skp x.P o.op T) (O x dr ops os (putO T o.dst (.val undef)) H U st) := rfl
theorem Gd_split {t : Nat} {b want : Bool} : Gd x dr (.split t b want) o T H U ops os st =
  if b = want then Bk x dr (resO dr x.P o.op o.dst (upd T t (.bool want)) H U) o.dst (upd T t (.bool want)) H U ops os st else Nd (skp x.P o.op (upd T t (.bool !want))) (O x dr ops os (putO (upd T t (.bool !want)) o.dst (.val undef)) H U st) := rfl
theorem Gd_bad : Gd x dr .bad o T H U ops os st = False := rfl
theorem Bk_ok {f q : Prop} {d : D} {H' U'} : Bk x false (.ok f q d H' U') dst T H U ops os st = Im f (An q (O x false ops os (putO T dst d) H' U' st)) :=
  propext ⟨fun h hf => ⟨(h hf).1, fun _ => (h hf).2⟩, fun h hf => ⟨(h hf).1, (h hf).2 (h hf).1⟩⟩
theorem Bk_okD {f q : Prop} {d : D} {H' U'} : Bk x true (.ok f q d H' U') dst T H U ops os st = An q (O x true ops os (putO T dst d) H' U' st) :=
  propext ⟨fun h => ⟨h.1, fun _ => h.2⟩, fun h => ⟨h.1, h.2 h.1⟩⟩
theorem Bk_call {f : Nat} {caps args : List D} : Bk x dr (.call f caps args) dst T H U ops os st = CX x dr (x.C.mp f) f caps args dst T H U ops os st := rfl
theorem CX_nil {f : Nat} {caps args : List D} : CX x dr [] f caps args dst T H U ops os st =
  Ck x dr (isNil (rfs H (args ++ caps))) (news H (args ++ caps) ∧ St x.P x.C f) (x.C.c f (cvs H caps) (cvs H args)) dst T H (frzs H (args ++ caps)) U ops os st := by
  simp only [CX, callX, callK, Ck, and_assoc]
theorem CX_cons {p : Nat} {ps : List Nat} {f : Nat} {caps args : List D} : CX x false (p :: ps) f caps args dst T H U ops os st =
  Mk x (news H (oths (p :: ps) 0 (args ++ caps)) ∧ StM x.P x.C f) (raws (p :: ps) 0 (args ++ caps)) (x.C.m f (cvm H (p :: ps) 0 (args ++ caps)) (frzs H (oths (p :: ps) 0 (args ++ caps)))) dst T (frzs H (oths (p :: ps) 0 (args ++ caps))) U ops os st := rfl
theorem Mk_bad {q : Prop} {raw : List D} : Mk x q raw .bad dst T Hf U ops os st = False := rfl
theorem Mk_ret {q pre : Prop} {raw : List D} {mu : List Nat} {o1 : List (Nat × LObj)} {d : D} : Mk x q raw (.yes pre mu o1 (.ret d)) dst T Hf U ops os st =
  (((q ∧ pre) ∧ (muOk (mkUs mu) Hf mu ∧ inOL (mkUs mu) raw) ∧ (frs U (mkUs mu) o1 ∧ plainL o1)) ∧ O x false ops os (putO T dst d) (addO o1 (dropU mu Hf)) (addU o1 U) st) := rfl
theorem Mk_pan {q pre : Prop} {raw : List D} {mu : List Nat} {o1 : List (Nat × LObj)} {d : D} : Mk x q raw (.yes pre mu o1 (.pan d)) dst T Hf U ops os st =
  (((q ∧ pre) ∧ (muOk (mkUs mu) Hf mu ∧ inOL (mkUs mu) raw) ∧ (frs U (mkUs mu) o1 ∧ plainL o1)) ∧ E x (.pan d) T (addO o1 (dropU mu Hf)) (addU o1 U) st) := rfl
theorem Mk_ite {c : Prop} [Decidable c] {q : Prop} {raw : List D} {A B : MS} : Mk x q raw (if c then A else B) dst T Hf U ops os st = if c then Mk x q raw A dst T Hf U ops os st else Mk x q raw B dst T Hf U ops os st := by split <;> rfl
theorem Bk_bad : Bk x dr .bad dst T H U ops os st = False := rfl
theorem Bk_pan {d : D} : Bk x false (.panic d) dst T H U ops os st = (news H [d] ∧ gnd (cv H 6 d) = true ∧ E x (.pan (cv H 6 d)) T H U st) := rfl
theorem Ck_mk {none : Bool} {q pre : Prop} {out : Out} : Ck x dr none q (pre, out) dst T H Hf U ops os st = ((q ∧ pre) ∧ Ok x dr (none || gndO out) out dst T H Hf U ops os st) := rfl
theorem Ok_ite {c : Prop} [Decidable c] {n : Bool} {A B : Out} : Ok x dr (n || gndO (if c then A else B)) (if c then A else B) dst T H Hf U ops os st = if c then Ok x dr (n || gndO A) A dst T H Hf U ops os st else Ok x dr (n || gndO B) B dst T H Hf U ops os st := by split <;> rfl
theorem Ok_ret {d : D} : Ok x dr true (.ret d) dst T H Hf U ops os st = O x dr ops os (putO T dst d) H U st := by cases dr <;> rfl
theorem Ok_retF {d : D} : Ok x false false (.ret d) dst T H Hf U ops os st = O x false ops os (putO T dst d) Hf U st := rfl
theorem Ok_retD {d : D} : Ok x true false (.ret d) dst T H Hf U ops os st = False := rfl
theorem Ok_pan {ok : Bool} {d : D} : Ok x false ok (.pan d) dst T H Hf U ops os st = (gnd d = true ∧ E x (.pan d) T H U st) := rfl
theorem Ok_panD {ok : Bool} {d : D} : Ok x true ok (.pan d) dst T H Hf U ops os st = False := rfl
theorem Ok_ownD {ok : Bool} {e sz : Nat} {rows : List (List D)} : Ok x true ok (.own e sz rows) dst T H Hf U ops os st = (ok = true ∧ O x true ops os (putO T dst (.sl sz rows)) H U st) := rfl
theorem Ok_own {e sz i : Nat} {rows : List (List D)} : Ok x false true (.own e sz rows) (some i) T H Hf U ops os st =
  (U i = false ∧ O x false ops os (upd T i (.vec i rows.length)) (upd H i (some (.vec e sz rows 0))) (upd U i true) st) := rfl
theorem Ok_ownF {e sz i : Nat} {rows : List (List D)} : Ok x false false (.own e sz rows) (some i) T H Hf U ops os st =
  (U i = false ∧ O x false ops os (upd T i (.vec i rows.length)) (upd Hf i (some (.vec e sz rows 0))) (upd U i true) st) := rfl
theorem Cd_b {t : Bool} : Cd x (.bool t) a b T H U st = if t = true then M x a T H U st else M x b T H U st := rfl
theorem E_nil {e : X} : E x e T H U [] = x.fin e T H U := rfl
theorem E_n_seq : E x .normal T H U (.seq b :: st) = M x b T H U st := rfl
theorem E_x_seq : E x (.exit id) T H U (.seq b :: st) = E x (.exit id) T H U st := rfl
theorem E_r_seq : E x .ret T H U (.seq b :: st) = E x .ret T H U st := rfl
theorem E_p_seq {d : D} : E x (.pan d) T H U (.seq b :: st) = E x (.pan d) T H U st := rfl
theorem E_p_blk {d : D} : E x (.pan d) T H U (.blk id :: st) = E x (.pan d) T H U st := rfl
theorem E_p_lp {I : Kt} {d : D} : E x (.pan d) T H U (.lp I :: st) = E x (.pan d) T H U st := rfl
theorem E_n_blk : E x .normal T H U (.blk id :: st) = E x .normal T H U st := rfl
theorem E_x_blk {j : Nat} : E x (.exit j) T H U (.blk id :: st) = if j = id then E x .normal T H U st else E x (.exit j) T H U st := rfl
theorem E_r_blk : E x .ret T H U (.blk id :: st) = E x .ret T H U st := rfl
theorem E_n_lp {I : Kt} : E x .normal T H U (.lp I :: st) = I T H U := rfl
theorem E_x_lp {I : Kt} : E x (.exit id) T H U (.lp I :: st) = E x (.exit id) T H U st := rfl
theorem E_r_lp {I : Kt} : E x .ret T H U (.lp I :: st) = E x .ret T H U st := rfl
theorem E_n_asg : E x .normal T H U (.asg b :: st) = (isRec (H 998) ∧ M x b T H U st) := rfl
theorem E_n_rng {L : List Nat} {t0 : List (Nat × D)} {next : Hp → Us → Prop} : E x .normal T H U (.rng L t0 next :: st) = (isRec (H 998) ∧ next H U) := rfl
theorem E_x_rng {L : List Nat} {t0 : List (Nat × D)} {next : Hp → Us → Prop} : E x (.exit id) T H U (.rng L t0 next :: st) = (isRec (H 998) ∧ E { x with L0 := L } (.exit id) (mkT t0) (upd H 998 none) U st) := by
  simp only [E, unw, unw_L]; rfl
theorem E_r_rng {L : List Nat} {t0 : List (Nat × D)} {next : Hp → Us → Prop} : E x .ret T H U (.rng L t0 next :: st) = (isRec (H 998) ∧ E { x with L0 := L } .ret (mkT t0) (upd H 998 none) U st) := by
  simp only [E, unw, unw_L]; rfl
theorem E_p_rng {L : List Nat} {t0 : List (Nat × D)} {next : Hp → Us → Prop} {d : D} : E x (.pan d) T H U (.rng L t0 next :: st) = (tame x.P ∧ isRec (H 998) ∧ E { x with L0 := L } (.pan d) (mkT t0) (upd H 998 none) U st) := by
  simp only [E, unw, unw_L]; rfl
theorem fin_n {rs : List Nat} {out : Out} : finX rs out .normal T H U = finK out (valR (mapT T rs)) H := rfl
theorem fin_r {rs : List Nat} {out : Out} : finX rs out .ret T H U = finK out (valR (mapT T rs)) H := rfl
theorem fin_p {rs : List Nat} {out : Out} {d : D} : finX rs out (.pan d) T H U = panF out d := rfl
theorem fin_x {rs : List Nat} {out : Out} {i : Nat} : finX rs out (.exit i) T H U = False := rfl
theorem finK_ite {c : Prop} [Decidable c] {A B : Out} {d : D} : finK (if c then A else B) d H = if c then finK A d H else finK B d H := by split <;> rfl
theorem panF_ite {c : Prop} [Decidable c] {A B : Out} {d : D} : panF (if c then A else B) d = if c then panF A d else panF B d := by split <;> rfl
theorem finM_n {rs : List Nat} {o1 : List (Nat × LObj)} {out : MOut} : finXM rs o1 out .normal T H U = finMK o1 out (valR (mapT T rs)) H U := rfl
theorem finM_r {rs : List Nat} {o1 : List (Nat × LObj)} {out : MOut} : finXM rs o1 out .ret T H U = finMK o1 out (valR (mapT T rs)) H U := rfl
theorem finM_p {rs : List Nat} {o1 : List (Nat × LObj)} {out : MOut} {d : D} : finXM rs o1 out (.pan d) T H U = panM o1 out d H U := rfl
theorem M_loop {σ : Type} (mk : σ → Hd) (μ : σ → Nat) (s0 : σ) (h0 : entH x.L0 (mk s0) T H U)
    (h : ∀ s, M x c (mkT (mk s).t) (mkH (mk s).o) (mkU (mk s).o) (.lp (fun T H U => ∃ s', entH x.L0 (mk s') T H U ∧ μ s' < μ s) :: st)) : M x (.loop c) T H U st :=
  .inl ⟨σ, mk, μ, s0, h0, h⟩
theorem M_loopI {σ : Type} (mk : σ → Hd) (μ : σ → Nat) (Inv : σ → Prop) (s0 : σ) (h0 : entH x.L0 (mk s0) T H U ∧ Inv s0)
    (h : ∀ s, Inv s → M x c (mkT (mk s).t) (mkH (mk s).o) (mkU (mk s).o) (.lp (fun T H U => ∃ s', entH x.L0 (mk s') T H U ∧ μ s' < μ s ∧ Inv s') :: st)) : M x (.loop c) T H U st := by
  refine M_loop (σ := { s : σ // Inv s }) (fun s => mk s.1) (fun s => μ s.1) ⟨s0, h0.2⟩ h0.1 fun s => ?_
  have e : (fun (T : Nat → D) (H : Hp) (U : Us) => ∃ s' : { s : σ // Inv s }, entH x.L0 (mk s'.1) T H U ∧ μ s'.1 < μ s.1) = fun T H U => ∃ s', entH x.L0 (mk s') T H U ∧ μ s' < μ s.1 ∧ Inv s' := by
    funext T H U
    exact propext ⟨fun ⟨s', h1, h2⟩ => ⟨s'.1, h1, h2, s'.2⟩, fun ⟨s', h1, h2, h3⟩ => ⟨⟨s', h3⟩, h1, h2⟩⟩
  rw [e]
  exact h s.1 s.2
theorem M_rangeG {g : Operand} {ps : Array Tmp} {f : Nat} {caps : List D} {ys : List (List D)} {pre : Prop} (hg : ev T g = .fn f [] caps) (hC : x.C.c f (cvs H caps) [] = (pre, .seq ys))
    (hq : (news H caps ∧ St x.P x.C f) ∧ pre) {σ : Type} (t0 : List (Nat × D)) (o : Nat → σ → List (Nat × LObj)) (Inv : Nat → σ → Prop) (s0 : σ)
    (h1 : lenY (isJ x.C.js 3998) ys ps.toList (fun j => ∃ s, Inv j s) ∧ statL t0 ∧ ∀ j s, Inv j s → plainL (o j s)) (h2 : ((entT U (mkU (o 0 s0)) T t0 ∧ entO U (mkU (o 0 s0)) (frzs H caps) (o 0 s0)) ∧ allU (mkU (o 0 s0)) (locs t0 ++ x.L0)) ∧ Inv 0 s0)
    (h3 : ∀ j s, Inv j s → j < ys.length → M { x with L0 := 998 :: (locs t0 ++ x.L0) } a (putPs (mkT t0) ps.toList (ys.getD j [])) (upd (mkH (o j s)) 998 (some .lrec)) (upd (mkU (o j s)) 998 true)
      (.asg b :: .rng x.L0 t0 (fun H U => ∃ s', (entO U (mkU (o (j + 1) s')) H (o (j + 1) s') ∧ allU (mkU (o (j + 1) s')) (locs t0 ++ x.L0)) ∧ Inv (j + 1) s') :: st))
    (h4 : ∀ s, Inv ys.length s → E x .normal (mkT t0) (mkH (o ys.length s)) (mkU (o ys.length s)) st) : M x (.rangeFunc g ps a b) T H U st := by
  simp only [M, vc, hg, rngV]
  rw [hC]
  refine ⟨hq, σ, t0, o, Inv, s0, h1, h2.1, h2.2, fun j s hi hj => ?_, h4⟩
  have := h3 j s hi hj
  simp only [M, unw, unw_L] at this
  exact this
theorem M_range {g : Operand} {ps : Array Tmp} {f : Nat} {caps : List D} {ys : List (List D)} {pre : Prop} (hg : ev T g = .fn f [] caps) (hC : x.C.c f (cvs H caps) [] = (pre, .seq ys))
    (hq : (news H caps ∧ St x.P x.C f) ∧ pre) {σ : Type} (t0 : List (Nat × D)) (o : Nat → σ → List (Nat × LObj)) (Inv : Nat → σ → Prop) (s0 : σ)
    (h1 : (∀ y ∈ ys, y.length = ps.toList.length) ∧ statL t0 ∧ ∀ j s, Inv j s → plainL (o j s)) (h2 : ((entT U (mkU (o 0 s0)) T t0 ∧ entO U (mkU (o 0 s0)) (frzs H caps) (o 0 s0)) ∧ allU (mkU (o 0 s0)) (locs t0 ++ x.L0)) ∧ Inv 0 s0)
    (h3 : ∀ j s, Inv j s → j < ys.length → M { x with L0 := 998 :: (locs t0 ++ x.L0) } a (putPs (mkT t0) ps.toList (ys.getD j [])) (upd (mkH (o j s)) 998 (some .lrec)) (upd (mkU (o j s)) 998 true)
      (.asg b :: .rng x.L0 t0 (fun H U => ∃ s', (entO U (mkU (o (j + 1) s')) H (o (j + 1) s') ∧ allU (mkU (o (j + 1) s')) (locs t0 ++ x.L0)) ∧ Inv (j + 1) s') :: st))
    (h4 : ∀ s, Inv ys.length s → E x .normal (mkT t0) (mkH (o ys.length s)) (mkU (o ys.length s)) st) (hjs : isJ x.C.js 3998 = false := by rfl) (hne : neP ps.toList := by exact True.intro) : M x (.rangeFunc g ps a b) T H U st :=
  M_rangeG hg hC hq t0 o Inv s0 ⟨by rw [hjs]; exact ⟨h1.1, hne⟩, h1.2⟩ h2 h3 h4
theorem M_rangeE {g : Operand} {ps : Array Tmp} {f : Nat} {caps : List D} {ys : List (List D)} {pre : Prop} (hg : ev T g = .fn f [] caps) (hC : x.C.c f (cvs H caps) [] = (pre, .seq (ys ++ [[]])))
    (hq : (news H caps ∧ St x.P x.C f) ∧ pre) {σ : Type} (t0 : List (Nat × D)) (o : Nat → σ → List (Nat × LObj)) (Inv : Nat → σ → Prop) (s0 : σ)
    (h1 : ((∀ y ∈ ys, y.length = ps.toList.length) ∧ ∀ s, ¬ Inv ys.length s) ∧ statL t0 ∧ ∀ j s, Inv j s → plainL (o j s)) (h2 : ((entT U (mkU (o 0 s0)) T t0 ∧ entO U (mkU (o 0 s0)) (frzs H caps) (o 0 s0)) ∧ allU (mkU (o 0 s0)) (locs t0 ++ x.L0)) ∧ Inv 0 s0)
    (h3 : ∀ j s, Inv j s → j < ys.length → M { x with L0 := 998 :: (locs t0 ++ x.L0) } a (putPs (mkT t0) ps.toList (ys.getD j [])) (upd (mkH (o j s)) 998 (some .lrec)) (upd (mkU (o j s)) 998 true)
      (.asg b :: .rng x.L0 t0 (fun H U => ∃ s', (entO U (mkU (o (j + 1) s')) H (o (j + 1) s') ∧ allU (mkU (o (j + 1) s')) (locs t0 ++ x.L0)) ∧ (Inv (j + 1) s' ∧ j + 1 < ys.length)) :: st))
    (hjs : isJ x.C.js 3998 = true := by rfl) : M x (.rangeFunc g ps a b) T H U st := by
  have h0 : 0 < ys.length := by
    rcases Nat.eq_zero_or_pos ys.length with h | h
    · exact absurd (h ▸ h2.2) (h1.1.2 s0)
    · exact h
  refine M_rangeG hg hC hq t0 o (fun j s => Inv j s ∧ j < ys.length) s0 ⟨by
    rw [hjs]
    refine ⟨by rw [List.dropLast_concat]; exact h1.1.1, ?_⟩
    rintro ⟨s, _, h⟩
    simp at h, h1.2.1, fun j s h => h1.2.2 j s h.1⟩ ⟨h2.1, h2.2, h0⟩ (fun j s hi hj => ?_) (fun s h => ?_)
  · have e : (ys ++ [[]]).getD j [] = ys.getD j [] := by
      rw [List.getD_eq_getElem?_getD, List.getElem?_append_left hi.2, List.getD_eq_getElem?_getD]
    rw [e]
    exact h3 j s hi.1 hi.2
  · have := h.2
    rw [List.length_append] at this
    omega
theorem Bk_yield {j : Nat} {args : List D} : Bk x false (.yield j args) dst T H U ops os st = (match H j with
  | some (.yl ys d false) => news H args ∧ (∃ r, ys = d ++ cvs H args :: r) ∧ ∀ b, enQ (isJ x.C.js 3999) (b = true ∧ ys = d ++ [cvs H args] ++ [[]]) (O x false ops os (putO T dst (.bool b)) (upd (frzs H args) j (some (.yl ys (d ++ [cvs H args]) (!b)))) U st)
  | _ => False) := rfl
theorem enQ_f {q k : Prop} : enQ false q k = k := rfl
theorem enQ_t {q k : Prop} : enQ true q k = (q ∨ k) := rfl
theorem Gd_congr {g g' : GM} (h : g = g') : Gd x dr g o T H U ops os st = Gd x dr g' o T H U ops os st := by rw [h]
theorem Bk_congr {r r' : Res} (h : r = r') : Bk x dr r dst T H U ops os st = Bk x dr r' dst T H U ops os st := by rw [h]
theorem Cd_congr {d d' : D} (h : d = d') : Cd x d a b T H U st = Cd x d' a b T H U st := by rw [h]
theorem Ck_congr {n : Bool} {q : Prop} {s s' : Prop × Out} (h : s = s') : Ck x dr n q s dst T H Hf U ops os st = Ck x dr n q s' dst T H Hf U ops os st := by rw [h]
theorem Sq_congr {j j' : Bool} (h : j = j') : Sq x j a b T H U st = Sq x j' a b T H U st := by rw [h]
theorem CX_congr {ps ps' : List Nat} {f : Nat} {caps args : List D} (h : ps = ps') : CX x dr ps f caps args dst T H U ops os st = CX x dr ps' f caps args dst T H U ops os st := by rw [h]
theorem Mk_congr {q : Prop} {raw : List D} {m m' : MS} (h : m = m') : Mk x q raw m dst T Hf U ops os st = Mk x q raw m' dst T Hf U ops os st := by rw [h]
theorem Ok_congr {n n' : Bool} {o o' : Out} (h : n = n') (ho : o = o') : Ok x dr n o dst T H Hf U ops os st = Ok x dr n' o' dst T H Hf U ops os st := by rw [h, ho]
attribute [congr] Rc_congr Rv_congr OV_congr WU_congr Ry_congr To1_congr Rz_congr OR_congr OW_congr Rg_congr Sq_congr Gd_congr Bk_congr Cd_congr Ck_congr Ok_congr CX_congr Mk_congr
theorem wkN_any (V : Us)  (d : D) : wkN V (.any) d = wk (.any) d := by cases d <;> rfl
theorem wkN_int (V : Us) (k : IntKind) (n : Int) (d : D) : wkN V (.int k n) d = wk (.int k n) d := by cases d <;> rfl
theorem wkN_bool (V : Us) (b : Bool) (d : D) : wkN V (.bool b) d = wk (.bool b) d := by cases d <;> rfl
theorem wkN_str (V : Us) (s : List UInt8) (d : D) : wkN V (.str s) d = wk (.str s) d := by cases d <;> rfl
theorem wkN_val (V : Us) (v : Value) (d : D) : wkN V (.val v) d = wk (.val v) d := by cases d <;> rfl
theorem wkN_emp (V : Us)  (d : D) : wkN V (.emp) d = wk (.emp) d := by cases d <;> rfl
theorem wkN_agg (V : Us) (cs : List D) (d : D) : wkN V (.agg cs) d = wk (.agg cs) d := by cases d <;> rfl
theorem wkN_tup (V : Us) (cs : List D) (d : D) : wkN V (.tup cs) d = wk (.tup cs) d := by cases d <;> rfl
theorem wkN_sl (V : Us) (z : Nat) (r : List (List D)) (d : D) : wkN V (.sl z r) d = wk (.sl z r) d := by cases d <;> rfl
theorem wkN_box (V : Us) (cs : List D) (d : D) : wkN V (.box cs) d = wk (.box cs) d := by cases d <;> rfl
theorem wkN_mp (V : Us) (ks ds : List D) (d : D) : wkN V (.mp ks ds) d = wk (.mp ks ds) d := by cases d <;> rfl
theorem wkN_fn (V : Us) (f : Nat) (a b : List D) (d : D) : wkN V (.fn f a b) d = wk (.fn f a b) d := by cases d <;> rfl
theorem wkN_ifc (V : Us) (t : Nat) (x : D) (d : D) : wkN V (.ifc t x) d = wk (.ifc t x) d := by cases d <;> rfl
theorem wkN_loc (V : Us) (i o : Nat) (d : D) : wkN V (.loc i o) d = wk (.loc i o) d := by cases d <;> rfl
theorem wkN_vec (V : Us) (i n : Nat) (d : D) : wkN V (.vec i n) d = wk (.vec i n) d := by cases d <;> rfl
theorem wkN_vptr (V : Us) (i n sz k o : Nat) (d : D) : wkN V (.vptr i n sz k o) d = wk (.vptr i n sz k o) d := by cases d <;> rfl
theorem wkN_vsub (V : Us) (i n z a b : Nat) (d : D) : wkN V (.vsub i n z a b) d = wk (.vsub i n z a b) d := by cases d <;> rfl
theorem wkN_lmap (V : Us) (i : Nat) (d : D) : wkN V (.lmap i) d = wk (.lmap i) d := by cases d <;> rfl
theorem wkN_yld (V : Us) (i : Nat) (d : D) : wkN V (.yld i) d = wk (.yld i) d := by cases d <;> rfl
theorem wkN_nv (V : Us) (i n : Nat) : wkN V .nil (.vec i n) = (n = 0 ∧ V i = false) := rfl
theorem wkN_nnil (V : Us) : wkN V .nil .nil = wk .nil .nil := rfl
theorem wkN_nany (V : Us) : wkN V .nil .any = wk .nil .any := rfl
theorem wkN_nemp (V : Us) : wkN V .nil .emp = wk .nil .emp := rfl
theorem wkN_nsl (V : Us) (z : Nat) (r : List (List D)) : wkN V .nil (.sl z r) = wk .nil (.sl z r) := rfl
theorem fc_M {P : Program} [Fen P] {C : Spec} {f : Nat} {fn : Func} {c : Code} {rs : List Nat} {caps args : List D} {out : Out} (hm : P.follows .mixedOrders = true) (hf : P.funcs[f]? = some fn)
    (hname : (fn.name == "runtime.NumGoroutine") = false) (hb : fn.body = some c) (hr : fn.results.toList = rs.map .tmp) (hc : chkC C.js fn.ntmps c = true) (hns : ∀ ys, out ≠ .seq ys)
    (hk : M ⟨P, C, finX rs out, []⟩ c (argT 0 (args ++ caps)) (fun _ => none) (fun _ => false) []) : FC P f caps args out := fc_of hm hf hname hb hr hc hns hk
theorem fcy_M {P : Program} [Fen P] {C : Spec} {f : Nat} {fn : Func} {c : Code} {caps : List D} {ys : List (List D)} (hm : P.follows .mixedOrders = true) (hf : P.funcs[f]? = some fn)
    (hname : (fn.name == "runtime.NumGoroutine") = false) (hb : fn.body = some c) (hr : fn.results.toList = ([] : List Nat).map .tmp) (hc : chkC C.js fn.ntmps c = true) (hn : noRg c = true)
    (hk : M ⟨P, C, finX [] (.seq ys), []⟩ c (argT 0 (.yld 999 :: caps)) (mkH [(999, .yl ys [] false)]) (mkU [(999, .yl ys [] false)]) []) : FC P f caps [] (.seq ys) := fcy_of hm hf hname hb hr hc hn hk
theorem fcm_M {P : Program} [Fen P] {C : Spec} {f : Nat} {fn : Func} {c : Code} {rs : List Nat} {all : List (Bool × D)} {o0 o1 : List (Nat × LObj)} {out : MOut} (hm : P.follows .mixedOrders = true) (hf : P.funcs[f]? = some fn)
    (hname : (fn.name == "runtime.NumGoroutine") = false) (hb : fn.body = some c) (hr : fn.results.toList = rs.map .tmp) (hc : chkC C.js fn.ntmps c = true) (hpl : plainL o1)
    (hk : M ⟨P, C, finXM rs o1 out, fltU (mkU o1) (idsO o0)⟩ c (argT 0 (all.map (·.2))) (mkH o0) (mkU o0) []) : FCM P f all o0 o1 out := fcm_of hm hf hname hb hr hc hpl hk
end
end Go.Tn
