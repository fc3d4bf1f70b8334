/- Symbolic data, and what the operations do to it. -/
import Derived.Test.YtlabdffgcciepaaGreatDoorTn7
import Derived.Laws.AppendOwnNone
set_option linter.unusedSimpArgs false
set_option linter.unusedVariables false
set_option linter.unusedSectionVars false
namespace Go.Tn
open Go.RowKit
section ops
variable {P : Program} {B : Base} {S : Ex} {p : Pl} {w : World} {H : Nat → Option LObj} {U : Nat → Bool} {t : Nat} {ty : Ty}
def bnd (o : Option D) (z : Int) : Option Int := match o with | none => some z | some (.int _ n) => some n | some _ => none
def evo (T : Nat → D) (o : Option Operand) : Option D := match o with | none => none | some x => some (ev T x)
def sliceR (ty : Ty) (x : D) (lo hi mx : Option D) (H : Nat → Option LObj) (U : Nat → Bool) : Res :=
  match x, mx with
  | .str s, none => match bnd lo 0, bnd hi s.length with
    | some l, some h => .ok True (ty.kind = .str ∧ 0 ≤ l ∧ l ≤ h ∧ h ≤ s.length) (.str ((s.drop l.toNat).take (h.toNat - l.toNat))) H U
    | _, _ => .bad
  | .sl sz rows, none => match bnd lo 0, bnd hi rows.length with
    | some l, some h => .ok True (ty.kind = .slice ∧ ty.esz = sz ∧ 0 ≤ l ∧ l ≤ h ∧ h ≤ rows.length) (.sl sz ((rows.drop l.toNat).take (h.toNat - l.toNat))) H U
    | _, _ => .bad
  | .sl _ _, some (.int _ m) => match bnd lo 0, bnd hi 1 with
    | some l, some h => .ok True (ty.kind = .slice ∧ l = 0 ∧ h = 0 ∧ m = 0) .emp H U
    | _, _ => .bad
  | .emp, none => match bnd lo 0, bnd hi 0 with
    | some l, some h => .ok True (ty.kind = .slice ∧ l = 0 ∧ h = 0) .emp H U
    | _, _ => .bad
  | .emp, some (.int _ m) => match bnd lo 0, bnd hi 1 with
    | some l, some h => .ok True (ty.kind = .slice ∧ l = 0 ∧ h = 0 ∧ m = 0) .emp H U
    | _, _ => .bad
  | .nil, none => match bnd lo 0, bnd hi 0 with
    | some l, some h => .ok True (ty.kind = .slice ∧ l = 0 ∧ h = 0) .nil H U
    | _, _ => .bad
  | _, _ => .bad
def RdO (S : Ex) (w : World) (p : Pl) : Option D → Option Value → Prop
  | none, o => o = none
  | some d, o => ∃ v, o = some v ∧ Rd S w d p v
theorem rdO_ev {T : Nat → D} {a : Act} (h : ∀ t, Rd S w (T t) p (a.tmps.getD t undef)) (o : Option Operand) : RdO S w p (evo T o) (o.map a.eval) := by
  cases o with
  | none => rfl
  | some x => exact ⟨_, rfl, rd_ev h x⟩
theorem run_bound {o : Option D} {ov : Option Value} {z : Nat} {n : Int} {y : Nat} {c : BoundsCode} (h : RdO S w p o ov) (hb : bnd o z = some n) (h0 : 0 ≤ n) (h1 : n ≤ y) :
    (match ov with | some v => Instr.sliceBound v y c | none => pure z).run P w = .ok n.toNat w := by
  cases o with
  | none => simp only [RdO] at h; subst h; simp [bnd] at hb; subst hb; simp
  | some d =>
    obtain ⟨v, rfl, hd⟩ := h
    cases d <;> simp only [bnd, Option.some.injEq, reduceCtorEq] at hb
    simp only [Rd] at hd; subst hd hb
    simp [Instr.sliceBound, asIntOf, h0, h1]
theorem rdRows_drop : ∀ {rows : List (List D)} {b off sz : Nat} (k : Nat), RdRows S w rows b off → (∀ r ∈ rows, r.length = sz) → k ≤ rows.length → RdRows S w (rows.drop k) b (off + k * sz)
  | rows, b, off, sz, 0, h, _, _ => by simpa using h
  | [], _, _, _, k + 1, _, _, h => by simp at h
  | r :: rs, b, off, sz, k + 1, h, hl, hk => by
    have := rdRows_drop k h.2 (fun r hr => hl r (by simp [hr])) (by simpa using hk)
    rw [hl r (by simp)] at this
    rw [List.drop_succ_cons, show off + (k + 1) * sz = off + sz + k * sz from by rw [Nat.add_mul]; omega]
    exact this
theorem rdRows_take : ∀ {rows : List (List D)} {b off : Nat} (k : Nat), RdRows S w rows b off → RdRows S w (rows.take k) b off
  | rows, b, off, 0, h => by simp [RdRows]
  | [], _, _, k + 1, _ => by simp [RdRows]
  | r :: rs, b, off, k + 1, h => ⟨h.1, rdRows_take k h.2⟩
theorem good_slice (hh : Heap B S p H U w) (hf : TyFact P t ty) {x : D} {v : Value} {lo hi mx : Option D} {vl vh vm : Option Value} (hx : Rd S w x p v) (hl : RdO S w p lo vl) (hhi : RdO S w p hi vh) (hm : RdO S w p mx vm) :
    Good P B S p w (Instr.sliceAt t v vl vh vm) (sliceR ty x lo hi mx H U) := by
  unfold sliceR
  split
  · rename_i s
    simp only [RdO] at hm; subst hm
    split
    · rename_i l h e1 e2
      simp only [Rd] at hx; obtain ⟨rfl, hb⟩ := hx
      refine ⟨trivial, fun hc => ?_⟩
      obtain ⟨hk, h0, h1, h2⟩ := hc
      have hu := hf.str hk
      have b1 := run_bound (P := P) (c := .sliceAlen) hhi (by simpa using e2) (by omega) h2
      have b2 := run_bound (P := P) (c := .sliceB) (y := h.toNat) (z := 0) hl e1 h0 (by omega)
      refine RunOk.same hh (v := .string ⟨((s.drop l.toNat).take (h.toNat - l.toNat)).toArray⟩) ?_ ⟨rfl, by simp only [List.length_take, List.length_drop]; omega⟩
      have hex : (⟨s.toArray⟩ : ByteArray).extract l.toNat h.toNat = ⟨((s.drop l.toNat).take (h.toNat - l.toNat)).toArray⟩ := by
        apply ByteArray.ext
        simp
      have hsz : (⟨s.toArray⟩ : ByteArray).size = s.length := by simp [ByteArray.size]
      simp only [Instr.sliceAt, Sem.run_bind, run_und hu, Result.andThen_ok, Instr.slice]
      unfold Instr.sliceBounds
      rw [hsz]
      cases vh <;> cases vl <;> simp_all
    · trivial
  · rename_i sz rows
    simp only [RdO] at hm; subst hm
    split
    · rename_i l h e1 e2
      simp only [Rd] at hx; obtain ⟨a, cap, rfl, hcap, hb, hz, hr⟩ := hx
      refine ⟨trivial, fun hc => ?_⟩
      obtain ⟨hk, rfl, h0, h1, h2⟩ := hc
      obtain ⟨hu, he, _, hsn⟩ := hf.slice hk
      have b1 := run_bound (P := P) (c := .sliceAcap) (y := cap) hhi (by simpa using e2) (by omega) (by omega)
      have b2 := run_bound (P := P) (c := .sliceB) (y := h.toNat) (z := 0) hl e1 h0 (by omega)
      have hlen : ((rows.drop l.toNat).take (h.toNat - l.toNat)).length = h.toNat - l.toNat := by simp only [List.length_take, List.length_drop]; omega
      refine RunOk.same hh (v := .slice (if cap = l.toNat then a else a.map (·.add (l.toNat * ty.esz))) (h.toNat - l.toNat) (cap - l.toNat)) ?_ ?_
      · simp only [Instr.sliceAt, Sem.run_bind, run_und hu, Result.andThen_ok, Instr.slice]
        unfold Instr.sliceBounds
        cases vh <;> cases vl <;> simp_all [run_sizeOf_seen hsn]
      · simp only [Rd]
        rw [hlen]
        refine ⟨_, _, rfl, by omega, by omega, fun r hr => hz r (mem_take_drop hr), ?_⟩
        by_cases hn : h.toNat = l.toNat
        · left; exact List.eq_nil_of_length_eq_zero (by omega)
        · right
          rcases hr with rfl | ⟨b, off, rfl, hr⟩
          · simp at h2; omega
          · rw [if_neg (by omega)]
            exact ⟨b, off + l.toNat * ty.esz, by simp [addr_add], rdRows_take _ (rdRows_drop _ hr hz (by omega))⟩
    · trivial
  · rename_i sz rows k m
    obtain ⟨vm', rfl, hm⟩ := hm
    simp only [Rd] at hm; subst hm
    split
    · rename_i l h e1 e2
      simp only [Rd] at hx; obtain ⟨a, cap, rfl, hcap, hb, hz, hr⟩ := hx
      refine ⟨trivial, fun hc => ?_⟩
      obtain ⟨hk, rfl, rfl, rfl⟩ := hc
      obtain ⟨hu, he, _, hsn⟩ := hf.slice hk
      have b2 := run_bound (P := P) (c := .slice3C) (y := 0) (z := 0) hl e1 (by omega) (by omega)
      have b1 := run_bound (P := P) (z := 1) (c := .slice3B) (y := 0) hhi e2 (by omega) (by omega)
      refine RunOk.same hh (v := .slice a 0 0) ?_ (by simp only [Rd]; exact ⟨a, rfl⟩)
      simp only [Instr.sliceAt, Sem.run_bind, run_und hu, Result.andThen_ok, Instr.slice]
      unfold Instr.sliceBounds
      have b0 : ∀ y : Nat, (Instr.sliceBound (.int k 0) y .slice3Acap).run P w = .ok 0 w := fun y => by simp [Instr.sliceBound, asIntOf]
      cases vh with
      | none =>
        cases hi with
        | none => simp [bnd] at e2
        | some d => obtain ⟨_, e, _⟩ := hhi; cases e
      | some vh' =>
        have b1' : (Instr.sliceBound vh' 0 .slice3B).run P w = .ok 0 w := b1
        cases vl with
        | none => simp [b0, b1', run_sizeOf_seen hsn]
        | some vl' =>
          have b2' : (Instr.sliceBound vl' 0 .slice3C).run P w = .ok 0 w := b2
          simp [b0, b1', b2', run_sizeOf_seen hsn]
    · trivial
  · simp only [RdO] at hm; subst hm
    split
    · rename_i l h e1 e2
      simp only [Rd] at hx; obtain ⟨a, rfl⟩ := hx
      refine ⟨trivial, fun hc => ?_⟩
      obtain ⟨hk, rfl, rfl⟩ := hc
      obtain ⟨hu, he, _, hsn⟩ := hf.slice hk
      have b1 := run_bound (P := P) (c := .sliceAcap) (y := 0) (z := 0) hhi e2 (by omega) (by omega)
      have b2 := run_bound (P := P) (c := .sliceB) (y := 0) (z := 0) hl e1 (by omega) (by omega)
      refine RunOk.same hh (v := .slice a 0 0) ?_ (by simp only [Rd]; exact ⟨a, rfl⟩)
      simp only [Instr.sliceAt, Sem.run_bind, run_und hu, Result.andThen_ok, Instr.slice]
      unfold Instr.sliceBounds
      cases vh <;> cases vl <;> simp_all [run_sizeOf_seen hsn]
    · trivial
  · rename_i k m
    obtain ⟨vm', rfl, hm⟩ := hm
    simp only [Rd] at hm; subst hm
    split
    · rename_i l h e1 e2
      simp only [Rd] at hx; obtain ⟨a, rfl⟩ := hx
      refine ⟨trivial, fun hc => ?_⟩
      obtain ⟨hk, rfl, rfl, rfl⟩ := hc
      obtain ⟨hu, he, _, hsn⟩ := hf.slice hk
      have b2 := run_bound (P := P) (c := .slice3C) (y := 0) (z := 0) hl e1 (by omega) (by omega)
      have b1 := run_bound (P := P) (z := 1) (c := .slice3B) (y := 0) hhi e2 (by omega) (by omega)
      refine RunOk.same hh (v := .slice a 0 0) ?_ (by simp only [Rd]; exact ⟨a, rfl⟩)
      simp only [Instr.sliceAt, Sem.run_bind, run_und hu, Result.andThen_ok, Instr.slice]
      unfold Instr.sliceBounds
      have b0 : ∀ y : Nat, (Instr.sliceBound (.int k 0) y .slice3Acap).run P w = .ok 0 w := fun y => by simp [Instr.sliceBound, asIntOf]
      cases vh with
      | none =>
        cases hi with
        | none => simp [bnd] at e2
        | some d => obtain ⟨_, e, _⟩ := hhi; cases e
      | some vh' =>
        have b1' : (Instr.sliceBound vh' 0 .slice3B).run P w = .ok 0 w := b1
        cases vl with
        | none => simp [b0, b1', run_sizeOf_seen hsn]
        | some vl' =>
          have b2' : (Instr.sliceBound vl' 0 .slice3C).run P w = .ok 0 w := b2
          simp [b0, b1', b2', run_sizeOf_seen hsn]
    · trivial
  · simp only [RdO] at hm; subst hm
    split
    · rename_i l h e1 e2
      simp only [Rd] at hx; subst hx
      refine ⟨trivial, fun hc => ?_⟩
      obtain ⟨hk, rfl, rfl⟩ := hc
      obtain ⟨hu, he, _, hsn⟩ := hf.slice hk
      have b1 := run_bound (P := P) (c := .sliceAcap) (y := 0) (z := 0) hhi e2 (by omega) (by omega)
      have b2 := run_bound (P := P) (c := .sliceB) (y := 0) (z := 0) hl e1 (by omega) (by omega)
      refine RunOk.same hh (v := .slice none 0 0) ?_ (by simp only [Rd])
      simp only [Instr.sliceAt, Sem.run_bind, run_und hu, Result.andThen_ok, Instr.slice]
      unfold Instr.sliceBounds
      cases vh <;> cases vl <;> simp_all [run_sizeOf_seen hsn]
    · trivial
  · trivial
end ops
end Go.Tn
