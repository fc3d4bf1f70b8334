/- Symbolic data, and what the operations do to it. -/
import Derived.Test.YtlabdffgcciepaaGreatDoorTn13
import Derived.Lib.ItoaNum
set_option linter.unusedSimpArgs false
set_option linter.unusedVariables false
set_option linter.unusedSectionVars false
namespace Go.Tn
open Go.RowKit
mutual
def gnd : D → Bool
  | .any => true
  | .int _ _ => true
  | .bool _ => true
  | .str _ => true
  | .val _ => true
  | .nil => true
  | .emp => true
  | .agg cs => gndL cs
  | .tup cs => gndL cs
  | .fn _ a b => gndL a && gndL b
  | .ifc _ d => gnd d
  | _ => false
def gndL : List D → Bool
  | [] => true
  | d :: ds => gnd d && gndL ds
end
mutual
theorem gnd_rd {S S' : Ex} {w w' : World} {p : Pl} : ∀ (d : D) {v : Value}, gnd d = true → Rd S w d noPl v → Rd S' w' d p v
  | .any, _, _, _ => by simp [Rd]
  | .int _ _, _, _, h => h
  | .bool _, _, _, h => h
  | .str _, _, _, h => h
  | .val _, _, _, h => h
  | .nil, _, _, h => h
  | .emp, _, _, h => h
  | .agg cs, _, hg, h => by
    simp only [gnd] at hg
    simp only [Rd] at h ⊢
    obtain ⟨vs, e, h, ho⟩ := h
    exact ⟨vs, e, gndL_rd cs hg h, ho⟩
  | .tup cs, _, hg, h => by
    simp only [gnd] at hg
    simp only [Rd] at h ⊢
    obtain ⟨vs, e, h⟩ := h
    exact ⟨vs, e, gndL_rd cs hg h⟩
  | .fn f a b, _, hg, h => by
    simp only [gnd, Bool.and_eq_true] at hg
    simp only [Rd] at h ⊢
    obtain ⟨fs, cs, e, h1, h2⟩ := h
    exact ⟨fs, cs, e, gndL_rd a hg.1 h1, gndL_rd b hg.2 h2⟩
  | .ifc t d, _, hg, h => by
    simp only [gnd] at hg
    simp only [Rd] at h ⊢
    obtain ⟨x, e, h⟩ := h
    exact ⟨x, e, gnd_rd d hg h⟩
  | .sl _ _, _, hg, _ => by simp [gnd] at hg
  | .box _, _, hg, _ => by simp [gnd] at hg
  | .mp _ _, _, hg, _ => by simp [gnd] at hg
  | .loc _ _, _, hg, _ => by simp [gnd] at hg
  | .vec _ _, _, hg, _ => by simp [gnd] at hg
  | .vptr _ _ _ _ _, _, hg, _ => by simp [gnd] at hg
  | .lmap _, _, hg, _ => by simp [gnd] at hg
  | .vsub _ _ _ _ _, _, hg, _ => by simp [gnd] at hg
  | .yld _, _, hg, _ => by simp [gnd] at hg
theorem gndL_rd {S S' : Ex} {w w' : World} {p : Pl} : ∀ (ds : List D) {vs : List Value}, gndL ds = true → RdL S w ds noPl vs → RdL S' w' ds p vs
  | [], _, _, h => h
  | d :: ds, _, hg, h => by
    simp only [gndL, Bool.and_eq_true] at hg
    obtain ⟨v, r, rfl, h1, h2⟩ := h
    exact ⟨v, r, rfl, gnd_rd d hg.1 h1, gndL_rd ds hg.2 h2⟩
end
inductive Out where
  | ret (d : D)
  | own (e sz : Nat) (rows : List (List D))
  | seq (ys : List (List D))
  | pan (d : D)
abbrev pch (v : Value) : List PanicEntry := [{ v, recovered := false }]
def OutRd (n0 : Nat) (S : Ex) (w : World) : Out → Value → Prop
  | .ret d, v => Rd S w d noPl v
  | .own e sz rows, v => ∃ xs, w.ownsRow n0 e sz v rows.length xs ∧ rows.length < 140737488355328 ∧ (∀ r ∈ rows, r.length = sz) ∧ RdL S w rows.flatten noPl xs ∧ (∀ u ∈ xs, u.oneCell' = true) ∧ ∀ b, v.ownBlock = some b → S b = 0
  | .seq _, _ => False
  | .pan _, _ => False
def PanRd (S : Ex) (w : World) : Out → List PanicEntry → Prop
  | .pan d, ch => ∃ v, ch = pch v ∧ gnd d = true ∧ Rd S w d noPl v
  | _, _ => False
def EndRd (n0 : Nat) (S : Ex) (w : World) (o : Out) : Ending → Prop
  | .returned v => OutRd n0 S w o v
  | .panicked ch => PanRd S w o ch
  | .outgrown => False
class Fen (P : Program) where
  tm : Prop
def tame (P : Program) [Fen P] : Prop := Fen.tm P
abbrev Fx (P : Program) [Fen P] : Fence := { Fence.wide with fn := fun f => tame P → (P.funcs[f]?).isSome = true }
abbrev CallsF (P : Program) [Fen P] (f : FuncId) (args : Array Value) (w : World) (R : Ending → World → Prop) : Prop := CallsIn (Fx P) 0 P f args w R
def Ent (P : Program) (f : Nat) : Prop := ∃ fn, P.funcs[f]? = some fn ∧ (fn.name == "runtime.NumGoroutine") = false ∧ fn.body.isNone = false
theorem Ent.fn {P : Program} {f : Nat} (h : Ent P f) : (P.funcs[f]?).isSome = true := by
  obtain ⟨fn, h1, _⟩ := h; rw [h1]; rfl
theorem run_enter {P : Program} {f : Nat} (h : Ent P f) (args : Array Value) (w : World) : (callFunc f args).run P w = .ok (.enter f args) w := by
  obtain ⟨fn, h1, h2, h3⟩ := h
  unfold callFunc
  simp only [Sem.run_bind, run_program, Result.andThen_ok, h1, h2, h3, if_false, Bool.false_eq_true]
  rfl
def Laid (P : Program) (S : Ex) (w : World) : Prop :=
  (∀ g, P.globalNamed "internal/strconv.uint64pow10" = some g → ∃ t z, w.heap[g]? = some (.cells (Lib.pow10Tab.map fun x => Value.int .u64 x).toArray t z) ∧ 20 < S g) ∧
  (∀ n, n = "strconv.ErrSyntax" ∨ n = "strconv.ErrRange" → ∀ g, P.globalNamed n = some g → ∃ tp q t z, w.heap[g]? = some (.cells #[.iface tp q] t z) ∧ 1 < S g) ∧
  ∀ g, P.globalNamed "internal/bytealg.MaxLen" = some g → ∃ m t z, w.heap[g]? = some (.cells #[.int .i64 m] t z) ∧ 1 < S g
theorem Laid.mono {P : Program} {S S' : Ex} {w w' : World} (h : Laid P S w) (k : Keep S S' w w') : Laid P S' w' := by
  refine ⟨fun g hg => ?_, fun n hn g hg => ?_, fun g hg => ?_⟩
  · obtain ⟨t, z, h1, h2⟩ := h.1 g hg
    exact ⟨t, z, (k.whole g _ t z h1 (by simpa [Lib.pow10Tab_length] using h2)).trans h1, Nat.lt_of_lt_of_le h2 (k.le g)⟩
  · obtain ⟨tp, q, t, z, h1, h2⟩ := h.2.1 n hn g hg
    exact ⟨tp, q, t, z, (k.whole g _ t z h1 (by simpa using h2)).trans h1, Nat.lt_of_lt_of_le h2 (k.le g)⟩
  · obtain ⟨m, t, z, h1, h2⟩ := h.2.2 g hg
    exact ⟨m, t, z, (k.whole g _ t z h1 (by simpa using h2)).trans h1, Nat.lt_of_lt_of_le h2 (k.le g)⟩
class LB (P : Program) (B : Base) : Prop where
  lb : ∀ S w, B.Kp S w → Laid P S w
def isJ : List Nat → Nat → Bool
  | [], _ => false
  | j :: r, i => Nat.beq i j || isJ r i
def endY (ys : List (List D)) : Bool := match ys.getLast? with | some [] => true | _ => false
structure JStep (P : Program) [Fen P] (B : Base) : Prop where
  step : ∀ (d : List (List D)) (args : List D) (E : Nat → Prop) (S : Ex) (w : World) (vs : List Value), B.J d false E S w → (∃ r, B.ys = d ++ args :: r) → RdL S w args noPl vs →
    (∀ b, 0 < S b → b < w.heap.size) → (∀ b, E b → b < w.heap.size) →
    ∃ (f : FuncId) (tmps : Array Value) (assign body : Code), (Instr.yield B.l vs.toArray).run P w = .ok (.round B.l f tmps assign body) w ∧
      RoundIn (Fx P) 0 P B.l f tmps assign body w fun e w' => (∃ (b : Bool) (S' : Ex) (E' : Nat → Prop), e = .returned (.bool b) ∧ B.J (d ++ [args]) (!b) E' S' w' ∧ Keep S S' w w' ∧
        w.heap.size ≤ w'.heap.size ∧ (∀ b, 0 < S' b → b < w'.heap.size) ∧ (∀ b, b < w.heap.size → ¬ E b → w'.heap[b]? = w.heap[b]? ∧ S' b = S b) ∧
        ∀ b, E' b → b < w'.heap.size ∧ (E b ∨ w.heap.size ≤ b)) ∨ ∃ ch S', e = .panicked ch ∧ B.Jp ch S' w'
  en : endY B.ys = true → ∀ (E : Nat → Prop) (S : Ex) (w : World), ¬ B.J B.ys.dropLast false E S w
def FCY (P : Program) [Fen P] (f : Nat) (caps : List D) (ys : List (List D)) : Prop :=
  ∀ (B : Base) (S : Ex) (w : World) (cs : List Value) (E : Nat → Prop), B.n0 = w.heap.size → (∀ b, B.mb b = false) → B.it = true → B.ys = ys → JStep P B → B.J [] false E S w → (∀ b, E b → b < w.heap.size) →
    (∀ b, 0 < S b → b < w.heap.size) → LB P B → B.Kp S w → B.L0 = [] → B.d0 = [] → B.nm = true → RdL S w caps noPl cs →
    CallsF P f (Value.func (.yield B.l) #[] #[] :: cs).toArray w fun e w' => (e = .returned (.tuple #[]) ∧ ∃ d st E' S', B.J d st E' S' w' ∧ (st = false → d = ys)) ∨ ∃ ch S', e = .panicked ch ∧ B.Jp ch S' w'
def FC (P : Program) [Fen P] (f : Nat) (caps args : List D) (out : Out) : Prop :=
  Ent P f ∧ match out with
  | .seq ys => FCY P f caps ys
  | out => ∀ (S : Ex) (w : World) (cs vs : List Value), Laid P S w → (∀ b, 0 < S b → b < w.heap.size) → RdL S w caps noPl cs → RdL S w args noPl vs →
    CallsF P f (vs ++ cs).toArray w fun e w' => ∃ S', Below w.heap.size w w' ∧ (∀ b, b < w.heap.size → S' b = S b) ∧ (∀ b, 0 < S' b → b < w'.heap.size) ∧
      EndRd w.heap.size S' w' out e
def rfs (H : Nat → Option LObj) (ds : List D) : List Nat := (ds.map (rf H 6)).flatten
section
variable {B : Base} {S S' : Ex} {p : Pl} {H : Nat → Option LObj} {U : Nat → Bool} {w w' : World}
theorem per_none (hh : Heap B S p H U w) {ds : List D} {vs : List Value} (hn : news H ds) (hd : RdL S w ds p vs) (hr : rfs H ds = []) : RdL S w (cvs H ds) noPl vs := by
  have hz : Fz [] S S p H := ⟨fun _ => Nat.le_refl _, fun i _ _ _ hi => by simp at hi, fun _ _ => rfl⟩
  refine rdL_cv (fun c hc v hv => cv_ok hh hz 6 c v (fun i hi => ?_) ((mem_foldr hn).1 c hc) hv) hd
  have : i ∈ rfs H ds := List.mem_flatten.2 ⟨_, List.mem_map.2 ⟨c, hc, rfl⟩, hi⟩
  rw [hr] at this; exact this
theorem rdL_cut {ds es : List D} {p : Pl} {vs us : List Value} (h : RdL S w ds p vs) (k : RdL S w es p us) (f : D → D) {xs : List Value} (hh : RdL S' w' ((ds ++ es).map f) noPl xs) (e : xs = vs ++ us) :
    RdL S' w' (ds.map f) noPl vs ∧ RdL S' w' (es.map f) noPl us := by
  subst e
  rw [List.map_append] at hh
  obtain ⟨a, b, e, h1, h2⟩ := rdL_split hh
  have l1 : a.length = vs.length := by rw [rdL_len h1, List.length_map, rdL_len h]
  obtain ⟨rfl, rfl⟩ := List.append_inj e l1.symm
  exact ⟨h1, h2⟩
end
end Go.Tn
