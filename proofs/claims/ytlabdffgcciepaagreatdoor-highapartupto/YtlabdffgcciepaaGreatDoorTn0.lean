/- Symbolic data, and what the operations do to it. -/
import Derived.CallsIn
import Derived.OrdersIn
import Derived.RangeFuncLeaves
import Derived.RecoverIn
import Derived.Below
import Derived.Laws.CopyRow
import Derived.Laws.AppendOwn
import Derived.Laws.OwnMore
import Derived.Laws.Entries
import Derived.Laws.StructEq
import Derived.Laws.Concat
import Derived.Laws.Small
set_option linter.unusedSimpArgs false
set_option linter.unusedVariables false
set_option linter.unusedSectionVars false
namespace Go.Tn
open Go.RowKit
inductive D where
  | any
  | int (k : IntKind) (n : Int)
  | bool (b : Bool)
  | str (s : List UInt8)
  | val (v : Value)
  | nil
  | emp
  | agg (cs : List D)
  | tup (ds : List D)
  | sl (sz : Nat) (rows : List (List D))
  | box (cs : List D)
  | mp (ks ds : List D)
  | fn (f : Nat) (first caps : List D)
  | ifc (t : Nat) (d : D)
  | loc (i off : Nat)
  | vec (i n : Nat)
  | vptr (i n sz k off : Nat)
  | lmap (i : Nat)
  | vsub (i n sz lo hi : Nat)
  | yld (j : Nat)
  deriving Inhabited
structure G where
  ptr : Nat
  own : Option Nat
  len : Nat
  hdr : Value
  env : Nat → Prop
abbrev Pl := Nat → Option G
abbrev Ex := Nat → Nat
def noPl : Pl := fun _ => none
mutual
def Rd (S : Ex) (w : World) : D → Pl → Value → Prop
  | .any, _, _ => True
  | .int k n, _, v => v = .int k n
  | .bool b, _, v => v = .bool b
  | .str s, _, v => v = .string ⟨s.toArray⟩ ∧ s.length < 140737488355328
  | .val u, _, v => v = u
  | .nil, _, v => v = .slice none 0 0
  | .emp, _, v => ∃ a, v = .slice a 0 0
  | .agg cs, p, v => ∃ vs : List Value, v = .agg vs.toArray ∧ RdL S w cs p vs ∧ ∀ v ∈ vs, v.oneCell' = true
  | .tup cs, p, v => ∃ vs : List Value, v = .tuple vs.toArray ∧ RdL S w cs p vs
  | .sl sz rows, _, v => ∃ a cap, v = .slice a rows.length cap ∧ rows.length ≤ cap ∧ rows.length < 140737488355328 ∧ (∀ r ∈ rows, r.length = sz) ∧
      (rows = [] ∨ ∃ b off, a = some ⟨b, off, none⟩ ∧ RdRows S w rows b off)
  | .box cs, _, v => ∃ b off, v = .pointer (some ⟨b, off, none⟩) ∧ RdAt S w cs b off
  | .mp ks ds, _, v => ∃ (r : Nat) (es : List MapEntry) (c : Nat), v = .map (some r) ∧ w.heap[r]? = some (.map es.toArray c) ∧ 0 < S r ∧
      RdL S w ks noPl (es.map (·.key)) ∧ RdL S w ds noPl (es.map (·.val))
  | .fn f first caps, p, v => ∃ fs cs : List Value, v = .func (.func f) fs.toArray cs.toArray ∧ RdL S w first p fs ∧ RdL S w caps p cs
  | .ifc t d, p, v => ∃ x, v = .iface t x ∧ Rd S w d p x
  | .loc i off, p, v => ∃ g, p i = some g ∧ v = .pointer (some ⟨g.ptr, off, none⟩)
  | .vec i n, p, v => ∃ g, p i = some g ∧ n ≤ g.len ∧ v.oneCell' = true ∧ (n = g.len → v = g.hdr)
  | .vptr i n sz k off, p, v => ∃ g, p i = some g ∧ n ≤ g.len ∧ v.oneCell' = true ∧ (n = g.len → ∃ b, g.own = some b ∧ v = .pointer (some ⟨b, k * sz + off, none⟩))
  | .lmap i, p, v => ∃ g, p i = some g ∧ v = .map (some g.ptr)
  | .vsub i n sz lo hi, p, v => ∃ g, p i = some g ∧ n ≤ g.len ∧ v.oneCell' = true ∧ (n = g.len → ∃ b cap off, g.own = some b ∧ g.hdr = .slice (some ⟨b, 0, none⟩) n cap ∧ v = .slice (some ⟨b, off, none⟩) (hi - lo) (cap - lo) ∧ (lo < hi ∨ lo = 0 → off = lo * sz))
  | .yld i, p, v => ∃ g, p i = some g ∧ v = .func (.yield g.ptr) #[] #[]
def RdL (S : Ex) (w : World) : List D → Pl → List Value → Prop
  | [], _, vs => vs = []
  | d :: ds, p, vs => ∃ v r, vs = v :: r ∧ Rd S w d p v ∧ RdL S w ds p r
def RdAt (S : Ex) (w : World) : List D → Nat → Nat → Prop
  | [], _, _ => True
  | d :: ds, b, off => off < S b ∧ (∃ v, w.cell? ⟨b, off, none⟩ = some v ∧ v.oneCell' = true ∧ Rd S w d noPl v) ∧ RdAt S w ds b (off + 1)
def RdRows (S : Ex) (w : World) : List (List D) → Nat → Nat → Prop
  | [], _, _ => True
  | r :: rs, b, off => RdAt S w r b off ∧ RdRows S w rs b (off + r.length)
end
structure Keep (S S' : Ex) (w w' : World) : Prop where
  le : ∀ b, S b ≤ S' b
  cell : ∀ b off v, off < S b → w.cell? ⟨b, off, none⟩ = some v → w'.cell? ⟨b, off, none⟩ = some v
  map : ∀ b es c, 0 < S b → w.heap[b]? = some (.map es c) → w'.heap[b]? = some (.map es c)
  dfr : ∀ (b : Nat) (x : Option (List Deferred)), w.heap[b]? = some (.deferred x) → w'.heap[b]? = some (.deferred x)
  whole : ∀ (b : Nat) (cs : Array Value) (t : TypeId) (z : Nat × Nat), w.heap[b]? = some (.cells cs t z) → cs.size < S b → w'.heap[b]? = w.heap[b]?
abbrev GLe (g g' : G) : Prop := g'.ptr = g.ptr ∧ g.len ≤ g'.len ∧ (g.len = g'.len → g'.hdr = g.hdr ∧ g'.own = g.own)
theorem GLe.refl (g : G) : GLe g g := ⟨rfl, Nat.le_refl _, fun _ => ⟨rfl, rfl⟩⟩
theorem GLe.trans {a b c : G} (h : GLe a b) (k : GLe b c) : GLe a c := ⟨k.1.trans h.1, Nat.le_trans h.2.1 k.2.1, fun e => by
  have h1 := h.2.1
  have h2 := k.2.1
  exact ⟨(k.2.2 (by omega)).1.trans (h.2.2 (by omega)).1, (k.2.2 (by omega)).2.trans (h.2.2 (by omega)).2⟩⟩
def PlLe (p p' : Pl) : Prop := ∀ i g, p i = some g → ∃ g', p' i = some g' ∧ g'.ptr = g.ptr ∧ g.len ≤ g'.len ∧ (g.len = g'.len → g'.hdr = g.hdr ∧ g'.own = g.own)
theorem PlLe.refl (p : Pl) : PlLe p p := fun _ g h => ⟨g, h, rfl, Nat.le_refl _, fun _ => ⟨rfl, rfl⟩⟩
theorem PlLe.trans {p q r : Pl} (h : PlLe p q) (k : PlLe q r) : PlLe p r := fun i g hg => by
  obtain ⟨g1, h1, e1, l1, f1⟩ := h i g hg
  obtain ⟨g2, h2, e2, l2, f2⟩ := k i g1 h1
  exact ⟨g2, h2, e2.trans e1, Nat.le_trans l1 l2, fun e => ⟨(f2 (by omega)).1.trans (f1 (by omega)).1, (f2 (by omega)).2.trans (f1 (by omega)).2⟩⟩
theorem PlLe.none (p : Pl) : PlLe noPl p := fun _ _ h => by cases h
theorem Keep.refl (S : Ex) (w : World) : Keep S S w w := ⟨fun _ => Nat.le_refl _, fun _ _ _ _ h => h, fun _ _ _ _ h => h, fun _ _ h => h, fun _ _ _ _ _ _ => rfl⟩
theorem Keep.trans {S S1 S2 : Ex} {w w1 w2 : World} (h : Keep S S1 w w1) (k : Keep S1 S2 w1 w2) : Keep S S2 w w2 :=
  ⟨fun b => Nat.le_trans (h.le b) (k.le b), fun b o v hb hc => k.cell b o v (Nat.lt_of_lt_of_le hb (h.le b)) (h.cell b o v hb hc),
   fun b es c hb hm => k.map b es c (Nat.lt_of_lt_of_le hb (h.le b)) (h.map b es c hb hm), fun b x hb => k.dfr b x (h.dfr b x hb),
   fun b cs t z hb hs => (k.whole b cs t z ((h.whole b cs t z hb hs).trans hb) (Nat.lt_of_lt_of_le hs (h.le b))).trans (h.whole b cs t z hb hs)⟩
structure KeepW (S S' : Ex) (w w' : World) : Prop where
  le : ∀ b, S b ≤ S' b
  cell : ∀ b off v, off < S b → w.cell? ⟨b, off, none⟩ = some v → w'.cell? ⟨b, off, none⟩ = some v
  map : ∀ b es c, 0 < S b → w.heap[b]? = some (.map es c) → w'.heap[b]? = some (.map es c)
theorem Keep.weak {S S' : Ex} {w w' : World} (h : Keep S S' w w') : KeepW S S' w w' := ⟨h.le, h.cell, h.map⟩
mutual
theorem Rd.monoW {S S' : Ex} {w w' : World} (hk : KeepW S S' w w') : ∀ (d : D) {p p' : Pl} {v : Value}, PlLe p p' → Rd S w d p v → Rd S' w' d p' v
  | .any, _, _, _, _, _ => by simp [Rd]
  | .int _ _, _, _, _, _, h => h
  | .bool _, _, _, _, _, h => h
  | .str _, _, _, _, _, h => h
  | .val _, _, _, _, _, h => h
  | .nil, _, _, _, _, h => h
  | .emp, _, _, _, _, h => h
  | .agg cs, _, _, _, hp, h => by
    simp only [Rd] at h ⊢
    obtain ⟨vs, e, h, ho⟩ := h
    exact ⟨vs, e, RdL.monoW hk cs hp h, ho⟩
  | .tup cs, _, _, _, hp, h => by
    simp only [Rd] at h ⊢
    obtain ⟨vs, e, h⟩ := h
    exact ⟨vs, e, RdL.monoW hk cs hp h⟩
  | .sl sz rows, _, _, _, _, h => by
    simp only [Rd] at h ⊢
    obtain ⟨a, cap, e, hc, hl, hz, h⟩ := h
    refine ⟨a, cap, e, hc, hl, hz, ?_⟩
    rcases h with h | ⟨b, off, ea, h⟩
    · exact .inl h
    · exact .inr ⟨b, off, ea, RdRows.monoW hk rows h⟩
  | .box cs, _, _, _, _, h => by
    simp only [Rd] at h ⊢
    obtain ⟨b, off, e, h⟩ := h
    exact ⟨b, off, e, RdAt.monoW hk cs h⟩
  | .mp ks ds, _, _, _, _, h => by
    simp only [Rd] at h ⊢
    obtain ⟨r, es, c, e, hm, hs, hks, h⟩ := h
    exact ⟨r, es, c, e, hk.map _ _ _ hs hm, Nat.lt_of_lt_of_le hs (hk.le r), RdL.monoW hk ks (PlLe.refl _) hks, RdL.monoW hk ds (PlLe.refl _) h⟩
  | .fn f first caps, _, _, _, hp, h => by
    simp only [Rd] at h ⊢
    obtain ⟨fs, cs, e, h1, h2⟩ := h
    exact ⟨fs, cs, e, RdL.monoW hk first hp h1, RdL.monoW hk caps hp h2⟩
  | .ifc t d, _, _, _, hp, h => by
    simp only [Rd] at h ⊢
    obtain ⟨x, e, h⟩ := h
    exact ⟨x, e, Rd.monoW hk d hp h⟩
  | .loc i off, _, _, _, hp, h => by
    simp only [Rd] at h ⊢
    obtain ⟨g, hg, e⟩ := h
    obtain ⟨g', hg', ep, _, _⟩ := hp i g hg
    exact ⟨g', hg', by rw [e, ep]⟩
  | .vec i n, _, _, _, hp, h => by
    simp only [Rd] at h ⊢
    obtain ⟨g, hg, hl, ho, e⟩ := h
    obtain ⟨g', hg', ep, hle, hh⟩ := hp i g hg
    exact ⟨g', hg', by omega, ho, fun en => by rw [e (by omega), (hh (by omega)).1]⟩
  | .vptr i n sz k off, _, _, _, hp, h => by
    simp only [Rd] at h ⊢
    obtain ⟨g, hg, hl, ho, e⟩ := h
    obtain ⟨g', hg', ep, hle, hh⟩ := hp i g hg
    exact ⟨g', hg', by omega, ho, fun en => by rw [(hh (by omega)).2]; exact e (by omega)⟩
  | .vsub i n sz lo hi, _, _, _, hp, h => by
    simp only [Rd] at h ⊢
    obtain ⟨g, hg, hl, ho, e⟩ := h
    obtain ⟨g', hg', ep, hle, hh⟩ := hp i g hg
    exact ⟨g', hg', by omega, ho, fun en => by rw [(hh (by omega)).1, (hh (by omega)).2]; exact e (by omega)⟩
  | .lmap i, _, _, _, hp, h => by
    simp only [Rd] at h ⊢
    obtain ⟨g, hg, e⟩ := h
    obtain ⟨g', hg', ep, _, _⟩ := hp i g hg
    exact ⟨g', hg', by rw [e, ep]⟩
  | .yld i, _, _, _, hp, h => by
    simp only [Rd] at h ⊢
    obtain ⟨g, hg, e⟩ := h
    obtain ⟨g', hg', ep, _, _⟩ := hp i g hg
    exact ⟨g', hg', by rw [e, ep]⟩
theorem RdL.monoW {S S' : Ex} {w w' : World} (hk : KeepW S S' w w') : ∀ (ds : List D) {p p' : Pl} {vs : List Value}, PlLe p p' → RdL S w ds p vs → RdL S' w' ds p' vs
  | [], _, _, _, _, h => by simpa [RdL] using h
  | d :: ds, _, _, _, hp, h => by
    simp only [RdL] at h ⊢
    obtain ⟨v, r, e, h1, h2⟩ := h
    exact ⟨v, r, e, Rd.monoW hk d hp h1, RdL.monoW hk ds hp h2⟩
theorem RdAt.monoW {S S' : Ex} {w w' : World} (hk : KeepW S S' w w') : ∀ (ds : List D) {b off : Nat}, RdAt S w ds b off → RdAt S' w' ds b off
  | [], _, _, _ => by simp [RdAt]
  | d :: ds, b, off, h => by
    simp only [RdAt] at h ⊢
    obtain ⟨hs, ⟨v, hc, ho, hd⟩, h⟩ := h
    exact ⟨Nat.lt_of_lt_of_le hs (hk.le b), ⟨v, hk.cell _ _ _ hs hc, ho, Rd.monoW hk d (PlLe.refl _) hd⟩, RdAt.monoW hk ds h⟩
theorem RdRows.monoW {S S' : Ex} {w w' : World} (hk : KeepW S S' w w') : ∀ (rs : List (List D)) {b off : Nat}, RdRows S w rs b off → RdRows S' w' rs b off
  | [], _, _, _ => by simp [RdRows]
  | r :: rs, b, off, h => by
    simp only [RdRows] at h ⊢
    exact ⟨RdAt.monoW hk r h.1, RdRows.monoW hk rs h.2⟩
end
theorem Rd.mono {S S' : Ex} {w w' : World} (hk : Keep S S' w w') (d : D) {p p' : Pl} {v : Value} (hp : PlLe p p') (h : Rd S w d p v) : Rd S' w' d p' v := Rd.monoW hk.weak d hp h
theorem RdL.mono {S S' : Ex} {w w' : World} (hk : Keep S S' w w') (ds : List D) {p p' : Pl} {vs : List Value} (hp : PlLe p p') (h : RdL S w ds p vs) : RdL S' w' ds p' vs := RdL.monoW hk.weak ds hp h
theorem RdAt.mono {S S' : Ex} {w w' : World} (hk : Keep S S' w w') (ds : List D) {b off : Nat} (h : RdAt S w ds b off) : RdAt S' w' ds b off := RdAt.monoW hk.weak ds h
theorem RdRows.mono {S S' : Ex} {w w' : World} (hk : Keep S S' w w') (rs : List (List D)) {b off : Nat} (h : RdRows S w rs b off) : RdRows S' w' rs b off := RdRows.monoW hk.weak rs h
end Go.Tn
