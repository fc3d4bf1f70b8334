/- Symbolic data, and what the operations do to it. -/
import Derived.Test.YtlabdffgcciepaaGreatDoorTnv
set_option linter.unusedSimpArgs false
set_option linter.unusedVariables false
set_option linter.unusedSectionVars false
namespace Go.Tn
open Go.RowKit
def isPt : Option TypeDesc → Bool | some (.pointer _) => true | none => true | _ => false
def mthG : Option (FuncId × Bool) → Option FuncId | some (f, false) => some f | _ => none
def mthF (P : Program) (t : Nat) (n : String) : Option FuncId :=
  match P.info? t with
  | some i => match i.methods.find? (·.name == n) with
    | some m => match m.path.isEmpty && !isPt (P.underlying t) with
      | true => mthG m.func
      | false => none
    | none => none
  | none => none
section
variable {P : Program} [Fen P] {B : Base} {S : Ex} {p : Pl} {w : World} {H : Hp} {U : Us} {t : Nat} {ty : Ty}
theorem run_mth {n : String} {f : FuncId} (h : mthF P t n = some f) (v : Value) (k : Nat) : (method (k + 1) t v n).run P w = .ok (f, v) w := by
  unfold mthF at h
  cases hi : P.info? t with
  | none => rw [hi] at h; cases h
  | some i =>
    rw [hi] at h
    simp only at h
    cases hm : i.methods.find? (·.name == n) with
    | none => rw [hm] at h; cases h
    | some m =>
      rw [hm] at h
      simp only at h
      cases hb : m.path.isEmpty && !isPt (P.underlying t) with
      | false => rw [hb] at h; cases h
      | true =>
        rw [hb] at h
        obtain ⟨hp, hq⟩ := Bool.and_eq_true_iff.1 hb
        have hp' : m.path.toList = [] := by simpa using hp
        cases hf : m.func with
        | none => rw [hf] at h; cases h
        | some x =>
          obtain ⟨f', b⟩ := x
          cases b with
          | true => rw [hf] at h; cases h
          | false =>
            rw [hf] at h
            cases h
            cases hu : P.underlying t with
            | none => rw [hu] at hq; cases hq
            | some u =>
              have h1 : (typeInfo t).run P w = .ok i w := by simp [typeInfo, hi]
              have h2 : (underlying t).run P w = .ok u w := by simp [underlying, hu]
              unfold method
              simp only [Sem.run_bind, h1, Result.andThen_ok, hm, follow, hp', hf, Sem.run_pure]
              unfold receiverAt
              simp only [Sem.run_bind, h2, Result.andThen_ok]
              cases u <;> first | (rw [hu] at hq; cases hq; done) | simp [Place.get]
def invR (P : Program) (x : D) (n : String) (args : List D) : Res :=
  match x with
  | .ifc t d => match mthF P t n with | some f => .call f [] (d :: args) | none => .bad
  | _ => .bad
def taD (ty : Ty) (ok : Bool) (b : Bool) (d : D) (H : Hp) (U : Us) : Res :=
  match b, ok with
  | true, true => okR (.tup [d, .bool true]) H U
  | true, false => okR d H U
  | false, true => okR (.tup [zeroD ty, .bool false]) H U
  | false, false => .bad
def taX (ty : Ty) (x : D) (asserted : Nat) (ok : Bool) (H : Hp) (U : Us) : Res :=
  match x with
  | .ifc t d => taD ty ok (Nat.beq t asserted) d H U
  | .val .nilIface => taD ty ok false .any H U
  | _ => .bad
def taR (ty : Ty) (x : D) (asserted : Nat) (ok : Bool) (H : Hp) (U : Us) : Res := match ty.kind with | .iface => .bad | _ => taX ty x asserted ok H U
theorem good_ta (hh : Heap B S p H U w) (hf : TyFact P t ty) {x : D} {v : Value} (hx : Rd S w x p v) (xt : Nat) (ok : Bool) : Good P B S p w (Instr.typeAssert v xt t ok) (taR ty x t ok H U) := by
  obtain ⟨d, hd, hk⟩ := hf.und
  have hun : (underlying t).run P w = .ok d w := by simp [underlying, hd]
  have main : ty.kind ≠ .iface → (∀ m, d ≠ .interface m) → Good P B S p w (Instr.typeAssert v xt t ok) (taX ty x t ok H U) := fun _ hni => by
    unfold taX
    obtain ⟨z, hz, hzr⟩ := rd_zero (S := S) (p := p) hf w
    have fails : ∀ {s dy : Option TypeId}, (do pure (.tuple #[← zeroValue t, .bool false]) : Sem Value).run P w = .ok (.tuple #[z, .bool false]) w := by simp [hz]
    split
    · rename_i t' d'
      simp only [Rd] at hx
      obtain ⟨u, rfl, hu⟩ := hx
      cases hb : Nat.beq t' t with
      | true =>
        have e : t' = t := Nat.eq_of_beq_eq_true hb
        subst e
        cases ok with
        | true =>
          refine Good.same hh (v := .tuple #[u, .bool true]) ?_ ?_
          · unfold Instr.typeAssert
            simp only [Sem.run_bind, hun, Result.andThen_ok]
            cases d <;> first | (exact absurd rfl (hni _)) | simp
          · simp only [Rd]; exact ⟨[u, .bool true], rfl, _, _, rfl, hu, _, _, rfl, rfl, rfl⟩
        | false =>
          refine Good.same hh (v := u) ?_ hu
          unfold Instr.typeAssert
          simp only [Sem.run_bind, hun, Result.andThen_ok]
          cases d <;> first | (exact absurd rfl (hni _)) | simp
      | false =>
        have e : t' ≠ t := fun e => by subst e; rw [Nat.beq_refl] at hb; cases hb
        cases ok with
        | true =>
          refine Good.same hh (v := .tuple #[z, .bool false]) ?_ ?_
          · unfold Instr.typeAssert
            simp only [Sem.run_bind, hun, Result.andThen_ok]
            cases d <;> first | (exact absurd rfl (hni _)) | simp [e, hz]
          · simp only [Rd]; exact ⟨[z, .bool false], rfl, _, _, rfl, hzr, _, _, rfl, rfl, rfl⟩
        | false => trivial
    · simp only [Rd] at hx; subst hx
      cases ok with
      | true =>
        refine Good.same hh (v := .tuple #[z, .bool false]) ?_ ?_
        · unfold Instr.typeAssert
          simp only [Sem.run_bind, hun, Result.andThen_ok]
          cases d <;> first | (exact absurd rfl (hni _)) | simp [hz]
        · simp only [Rd]; exact ⟨[z, .bool false], rfl, _, _, rfl, hzr, _, _, rfl, rfl, rfl⟩
      | false => trivial
    · trivial
  unfold taR
  cases hkk : ty.kind <;> rw [hkk] at hk <;> simp only at hk ⊢ <;> first
    | trivial
    | (refine main (by rw [hkk]; intro h; cases h) fun m e => ?_; subst e; first | (cases hk; done) | (cases hk.1; done) | (obtain ⟨_, e, _⟩ := hk; cases e; done) | (obtain ⟨_, _, _, e⟩ := hk; cases e; done) | exact hk)
end
end Go.Tn
