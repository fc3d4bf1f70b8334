/- Symbolic data, and what the operations do to it. -/
import Derived.Test.YtlabdffgcciepaaGreatDoorTM
import Derived.Test.YtlabdffgcciepaaGreatDoorTv
import Derived.Laws.BytesArg
set_option linter.unusedSimpArgs false
set_option linter.unusedVariables false
set_option linter.unusedSectionVars false
namespace Go.Tn
open Go.RowKit
section
variable {P : Program} [Fen P] {B : Base} {S : Ex} {p : Pl} {w : World} {H : Hp} {U : Us} {t t' : Nat} {ty ty' : Ty}
def convK (k : TK) (x : D) (H : Hp) (U : Us) : Res :=
  match k, x with
  | .int k, .int _ n => .ok True (InR k n) (.int k n) H U
  | .str, .str s => okR (.str s) H U
  | _, _ => .bad
theorem good_conv (hh : Heap B S p H U w) (hs : TyFact P t ty) (hd : TyFact P t' ty') {x : D} {v : Value} (hx : Rd S w x p v) : Good P B S p w (convert t t' v) (convK ty'.kind x H U) := by
  obtain ⟨d, hu, _⟩ := hs.und
  obtain ⟨d', hu', hk'⟩ := hd.und
  unfold convK
  split
  · rename_i k j n hk
    simp only [hk] at hk'
    subst hk'
    simp only [Rd] at hx; subst hx
    refine ⟨trivial, fun hc => RunOk.same hh (v := .int k n) ?_ rfl⟩
    simp [convert, run_und hu, run_und hu', Conv.intToInt, wrap_of hc]
  · rename_i s hk
    simp only [hk] at hk'
    subst hk'
    obtain ⟨rfl, hl⟩ := hx
    refine Good.same hh (v := .string ⟨s.toArray⟩) ?_ ⟨rfl, hl⟩
    simp [convert, run_und hu, run_und hu']
  · trivial
def convB (sty ety : Ty) (o : Option LObj) (n : Nat) (H : Hp) (U : Us) : Res :=
  match o with
  | some (.vec _ 1 [[.int k b]] _) => .ok True (k = .u8 ∧ sty.kind = .slice ∧ ety.kind = .int .u8 ∧ n = 1) (.str [UInt8.ofNat b.toNat]) H U
  | _ => .bad
theorem good_convB (hh : Heap B S p H U w) (hs : TyFact P t ty) {ety : Ty} (he : TyFact P ty.elem ety) (hd : TyFact P t' ty') (hk : ty'.kind = .str) {i n : Nat} {v : Value} (hx : Rd S w (.vec i n) p v) : Good P B S p w (convert t t' v) (convB ty ety (H i) n H U) := by
  unfold convB
  split
  · rename_i e k b fz ho
    refine ⟨trivial, fun hc => ?_⟩
    obtain ⟨rfl, hsk, hek, rfl⟩ := hc
    obtain ⟨hsl, _, _, _⟩ := hs.slice hsk
    obtain ⟨d, hu, hu'⟩ := he.und
    rw [hek] at hu'; subst hu'
    obtain ⟨d', hv, hv'⟩ := hd.und
    rw [hk] at hv'; subst hv'
    simp only [Rd] at hx
    obtain ⟨g, hg, hle, h1, hvv⟩ := hx
    obtain ⟨g', hg', xs, ⟨hown, _⟩, hob, hl, hlen, hsz, hrd, h1c, _⟩ := hh.obj i _ ho
    rw [hg] at hg'; cases hg'
    have hl1 : g.len = 1 := hl
    obtain rfl := hvv hl1.symm
    obtain ⟨u, r, rfl, hu1, hu2⟩ : ∃ u r, xs = u :: r ∧ Rd S w (.int .u8 b) noPl u ∧ RdL S w [] noPl r := by simpa [RdL] using hrd
    simp only [RdL] at hu2; subst hu2
    simp only [Rd] at hu1; subst hu1
    rcases hown.2 with ⟨e1, e0⟩ | ⟨gb, cap, cu, e1, hgb, hhb, hnc, _⟩
    · simp at e0
    · have hcell := owns_cell hown (by rw [e1]; rfl) 0 (.int .u8 b) rfl
      have := run_convert_bytes_arg (P := P) w t ty.elem hsl hu gb 0 1 cap [b] rfl (fun j hj => by
        obtain rfl : j = 0 := by omega
        simpa using hcell) t' hv
      refine RunOk.same hh (v := .string ⟨[UInt8.ofNat b.toNat].toArray⟩) ?_ ⟨rfl, by simp⟩
      rw [e1]
      simpa [strOfNums] using this
  · trivial
def convX (P : Program) (sty dty : Ty) (x : D) (H : Hp) (U : Us) : Res :=
  match dty.kind, x with
  | .str, .vec i n => (match (tyOf P sty.elem).kind with | .other => .bad | _ => convB sty (tyOf P sty.elem) (H i) n H U)
  | k, x => convK k x H U
theorem good_convX (hh : Heap B S p H U w) (hs : TyFact P t ty) (hd : TyFact P t' ty') {x : D} {v : Value} (hx : Rd S w x p v) : Good P B S p w (convert t t' v) (convX P ty ty' x H U) := by
  unfold convX
  split
  · rename_i i n hk
    cases hko : (tyOf P ty.elem).kind <;> simp only [hko] <;> first | trivial | exact good_convB hh hs (tyOf_fact (by rw [hko]; intro h; cases h)) hd hk hx
  · exact good_conv hh hs hd hx
def mkifcR (t : Nat) (ty : Ty) (x : D) (H : Hp) (U : Us) : Res := match ty.kind with | .iface => .bad | _ => okR (.ifc t x) H U
theorem good_mkifc (hh : Heap B S p H U w) (hs : TyFact P t ty) {x : D} {v : Value} (hx : Rd S w x p v) : Good P B S p w (Instr.makeInterface t v) (mkifcR t ty x H U) := by
  obtain ⟨d, hu, hk⟩ := hs.und
  unfold mkifcR
  have fin : (∀ m, d ≠ .interface m) → Good P B S p w (Instr.makeInterface t v) (okR (.ifc t x) H U) := fun hn => by
    refine Good.same hh (v := .iface t v) ?_ ⟨v, rfl, hx⟩
    simp only [Instr.makeInterface, Sem.run_bind, run_und hu, Result.andThen_ok]
    cases d <;> first | rfl | exact absurd rfl (hn _)
  cases hkk : ty.kind <;> rw [hkk] at hk <;> simp only at hk ⊢ <;> first | trivial | (refine fin fun m e => ?_; subst e; first | (cases hk; done) | (cases hk.1; done) | (obtain ⟨_, e, _⟩ := hk; cases e; done) | (obtain ⟨_, _, _, e⟩ := hk; cases e; done) | exact hk)
def maxR (x y : D) (H : Hp) (U : Us) : Res := match x, y with | .int k a, .int _ b => okR (.int k (max a b)) H U | _, _ => .bad
def minR (x y : D) (H : Hp) (U : Us) : Res := match x, y with | .int k a, .int _ b => okR (.int k (min a b)) H U | _, _ => .bad
theorem good_max (hh : Heap B S p H U w) {x y : D} {v u : Value} {tys : Array TypeId} {ty : TypeId} (hx : Rd S w x p v) (hy : Rd S w y p u) : Good P B S p w (Builtin.max_ tys ty #[v, u]) (maxR x y H U) := by
  unfold maxR; split
  · rename_i k a k' b
    simp only [Rd] at hx hy; subst hx hy
    refine Good.same hh (v := .int k (max a b)) ?_ rfl
    simp only [Builtin.max_, List.foldlM, Builtin.max2, Sem.run_bind, Sem.run_pure, Result.andThen_ok]
    congr 2
    split <;> omega
  · trivial
theorem good_min (hh : Heap B S p H U w) {x y : D} {v u : Value} {tys : Array TypeId} {ty : TypeId} (hx : Rd S w x p v) (hy : Rd S w y p u) : Good P B S p w (Builtin.min_ tys ty #[v, u]) (minR x y H U) := by
  unfold minR; split
  · rename_i k a k' b
    simp only [Rd] at hx hy; subst hx hy
    refine Good.same hh (v := .int k (min a b)) ?_ rfl
    simp only [Builtin.min_, List.foldlM, Builtin.min2, Sem.run_bind, Sem.run_pure, Result.andThen_ok]
    congr 2
    split <;> omega
  · trivial
end
end Go.Tn
