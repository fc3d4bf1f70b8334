/- Symbolic data, and what the operations do to it. -/
import Derived.Test.YtlabdffgcciepaaGreatDoorTe
import Derived.Carry
import Derived.JoinedCond
import Derived.OpenShut
import Derived.RowKit3
import Derived.Deep.Slices
set_option linter.unusedSimpArgs false
set_option linter.unusedVariables false
set_option linter.unusedSectionVars false
namespace Go.Tn
open Go.RowKit
variable {x : Cx} {T : Nat → D} {H : Hp} {U : Us} {st : List Fr} {dr : Bool} {ops : Array Oper}
theorem O_app {o : Oper} {l m : List Oper} : O x dr ops (List.append (o :: l) m) T H U st = O x dr ops (o :: List.append l m) T H U st := rfl
theorem O_app0 {m : List Oper} : O x dr ops (List.append [] m) T H U st = O x dr ops m T H U st := rfl
theorem ap_nil {α : Type} (m : List α) (n : Nat) : (List.append [] m)[n]? = m[n]? := rfl
theorem ap_zero {α : Type} (a : α) (l m : List α) : (List.append (a :: l) m)[0]? = some a := rfl
theorem ap_succ {α : Type} (a : α) (l m : List α) (n : Nat) : (List.append (a :: l) m)[n + 1]? = (List.append l m)[n]? := rfl
theorem beq_beq (a b : Nat) : Nat.beq a b = (a == b) := by rw [Bool.eq_iff_iff]; simp
attribute [go_sem] beq_beq
attribute [go_sem ↓] O_app O_app0
attribute [go_sem ↓] ap_nil ap_zero ap_succ List.getElem?_toArray List.getElem?_cons_zero List.getElem?_cons_succ
end Go.Tn
namespace Go.Tn
open Go.RowKit
def kP (x : (Int × Int) × List UInt8) : D := .agg [.int .i64 x.1.1, .int .i64 x.1.2]
def vP (x : (Int × Int) × List UInt8) : D := .str x.2
def keP (x : Int × Int) : D := .agg [.int .i64 x.1, .int .i64 x.2]
theorem eqK_pair {kty : Ty} (h : kty.kind = .struct) (he : kty.eagg = true) (hz : kty.zero = [.int .i64 0, .int .i64 0]) (a b : Int × Int) : eqK kty (keP a) (keP b) = some (decide (a = b)) := by
  obtain ⟨a1, a2⟩ := a
  obtain ⟨b1, b2⟩ := b
  simp [eqK, keP, h, he, hz, eqZ]
theorem lookP {ty kty ety : Ty} {m : List ((Int × Int) × List UInt8)} {a b : Int} {ok : Bool} {H : Hp} {U : Us} (h : kty.kind = .struct) (he : kty.eagg = true) (hk : kty.zero = [.int .i64 0, .int .i64 0]) (hz : zeroD ety = .str []) :
    lookM ty kty ety (m.map kP) (m.map vP) (.agg [.int .i64 a, .int .i64 b]) ok H U = .ok True (ty.kind = .map) (tupOk ok (.str (glk [] m (a, b))) (m.any fun x => decide (x.1 = (a, b)))) H U := glook (ke := keP) (ve := D.str) (v0 := ([] : List UInt8)) (eqK_pair h he hk) (k := (a, b)) hz
theorem lookP0 {ty kty ety : Ty} {a b : Int} {ok : Bool} {H : Hp} {U : Us} (h : kty.kind = .struct) (he : kty.eagg = true) (hk : kty.zero = [.int .i64 0, .int .i64 0]) (hz : zeroD ety = .str []) :
    lookM ty kty ety [] [] (.agg [.int .i64 a, .int .i64 b]) ok H U = .ok True (ty.kind = .map) (tupOk ok (.str []) false) H U := lookP (m := []) h he hk hz
theorem updP {ty kty : Ty} {m : List ((Int × Int) × List UInt8)} {i : Nat} {a b : Int} {v : List UInt8} {H : Hp} {U : Us} (h : kty.kind = .struct) (he : kty.eagg = true) (hk : kty.zero = [.int .i64 0, .int .i64 0]) :
    updB (some (.mp (m.map kP) (m.map vP) false)) i ty kty (.agg [.int .i64 a, .int .i64 b]) (.str v) H U = .ok True (ty.kind = .map) .any (upd H i (some (.mp ((gup m (a, b) v).map kP) ((gup m (a, b) v).map vP) false))) U := gupd (ke := keP) (ve := D.str) (eqK_pair h he hk) (k := (a, b))
attribute [go_sem] lookP lookP0 updP
end Go.Tn
namespace Go.Tn
open Go.RowKit Go.ChangeShapes
inductive Sh where
  | int (k : IntKind)
  | bool
  | str
  | slc (cs : List Sh)
mutual
def Fits : Sh → D → Prop
  | .int k, d => ∃ n : { n : Int // (Lit.int k n).wf = true }, d = .int k n.1
  | .bool, d => ∃ b, d = .bool b
  | .str, d => ∃ s, d = .str s
  | .slc cs, d => ∃ rows : List (List D), d = .sl (shL cs) rows ∧ ∀ r ∈ rows, FitsL cs r
def FitsL : List Sh → List D → Prop
  | [], ds => ds = []
  | c :: cs, ds => ∃ d r, ds = d :: r ∧ Fits c d ∧ FitsL cs r
def shL : List Sh → Nat
  | [] => 0
  | _ :: cs => shL cs + 1
end
theorem shL_len : ∀ cs : List Sh, shL cs = cs.length
  | [] => rfl
  | _ :: cs => by simp [shL, shL_len cs]
mutual
def szD : D → Nat
  | .str s => s.length + 1
  | .sl _ rows => szR rows + 1
  | _ => 1
def szL : List D → Nat
  | [] => 0
  | d :: ds => szD d + szL ds
def szR : List (List D) → Nat
  | [] => 0
  | r :: rs => szL r + szR rs
end
section
variable {H : Type}
mutual
def blk : DataW H → Nat
  | .lit (.string bytes) => bytes.length + 1
  | .lit _ => 1
  | .nil => 1
  | .ptr d => blk d + 1
  | .slice elems spare => blkL elems + blkL spare + 1
  | .agg parts => blkL parts + 1
  | .iface _ d => blk d + 1
  | .map entries => blkE entries + 1
  | .held _ => 1
def blkL : List (DataW H) → Nat
  | [] => 0
  | d :: r => blk d + blkL r
def blkE : List (Lit × DataW H) → Nat
  | [] => 0
  | x :: r => blk1 x + blkE r
def blk1 : Lit × DataW H → Nat
  | (.string bytes, d) => bytes.length + blk d + 1
  | (_, d) => blk d + 1
end
theorem blk_at {l : List (DataW H)} {i : Nat} {d : DataW H} (h : l[i]? = some d) : blk d ≤ blkL l := by
  induction l generalizing i with
  | nil => simp at h
  | cons x l ih =>
    simp only [blkL]
    cases i with
    | zero => simp at h; subst h; omega
    | succ i => have := ih (i := i) (by simpa using h); omega
end
def shF (r : TypeId → Option (List Sh)) (P : Program) : List Field → Nat → Option (List Sh)
  | [], _ => some []
  | f :: fs, off => match r f.type, shF r P fs (off + P.cellsOf f.type) with
    | some cs, some rest => if f.offset = off ∧ P.cellsOf f.type = cs.length then some (cs ++ rest) else none
    | _, _ => none
def shT (P : Program) : Nat → TypeId → Option (List Sh)
  | 0, _ => none
  | n + 1, t => match P.underlying t with
    | some (.int k) => some [.int k]
    | some .bool => some [.bool]
    | some .string => some [.str]
    | some (.slice e) => match shT P n e with
      | some (c :: cs) => if P.cellsOf e = (c :: cs).length then some [.slc (c :: cs)] else none
      | _ => none
    | some (.struct fs) => match shF (shT P n) P fs.toList 0 with
      | some cs => if P.cellsOf t = cs.length then some cs else none
      | none => none
    | _ => none
def exW (w : World) : Ex := fun b => match w.heap[b]? with | some (.cells c _ _) => c.size + 1 | _ => 0
theorem exW_lt {w : World} {b : Nat} (h : 0 < exW w b) : b < w.heap.size := by
  unfold exW at h
  split at h
  · rename_i e; exact (Array.getElem?_eq_some_iff.1 e).1
  · omega
theorem exW_cell {w : World} {b off : Nat} {v : Value} (h : w.cell? ⟨b, off, none⟩ = some v) : off < exW w b := by
  unfold World.cell? at h
  unfold exW
  split at h
  · rename_i c _ _ e
    have e : w.heap[b]? = _ := e
    rw [e]
    simp only [Option.isSome_none, Bool.false_eq_true, if_false] at h
    exact Nat.lt_succ_of_lt (Array.getElem?_eq_some_iff.1 h).1
  · cases h
section
variable {S : Ex} {w : World} {p : Pl}
theorem fits_one {c : Sh} {d : D} {v : Value} (h : Fits c d) (hd : Rd S w d p v) : v.oneCell' = true := by
  cases c with
  | int k => simp only [Fits] at h; obtain ⟨n, rfl⟩ := h; simp only [Rd] at hd; subst hd; rfl
  | bool => simp only [Fits] at h; obtain ⟨n, rfl⟩ := h; simp only [Rd] at hd; subst hd; rfl
  | str => simp only [Fits] at h; obtain ⟨n, rfl⟩ := h; simp only [Rd] at hd; rw [hd.1]; rfl
  | slc cs => simp only [Fits] at h; obtain ⟨n, rfl, _⟩ := h; simp only [Rd] at hd; obtain ⟨a, cap, rfl, _⟩ := hd; rfl
theorem fitsL_one : ∀ {cs : List Sh} {ds : List D} {vs : List Value}, FitsL cs ds → RdL S w ds p vs → ∀ v ∈ vs, v.oneCell' = true
  | [], ds, vs, h, hd => by simp only [FitsL] at h; subst h; simp only [RdL] at hd; subst hd; simp
  | c :: cs, ds, vs, h, hd => by
    simp only [FitsL] at h
    obtain ⟨d, r, rfl, h1, h2⟩ := h
    simp only [RdL] at hd
    obtain ⟨v, r', rfl, g1, g2⟩ := hd
    intro u hu
    rcases List.mem_cons.1 hu with rfl | hu
    · exact fits_one h1 g1
    · exact fitsL_one h2 g2 u hu
theorem fitsL_len : ∀ {cs : List Sh} {ds : List D}, FitsL cs ds → ds.length = cs.length
  | [], ds, h => by simp only [FitsL] at h; subst h; rfl
  | c :: cs, ds, h => by
    simp only [FitsL] at h
    obtain ⟨d, r, rfl, h1, h2⟩ := h
    simp [fitsL_len h2]
theorem fitsL_app : ∀ {cs cs' : List Sh} {ds ds' : List D}, FitsL cs ds → FitsL cs' ds' → FitsL (cs ++ cs') (ds ++ ds')
  | [], _, ds, _, h, h' => by simp only [FitsL] at h; subst h; exact h'
  | c :: cs, _, ds, _, h, h' => by
    simp only [FitsL] at h
    obtain ⟨d, r, rfl, h1, h2⟩ := h
    simp only [List.cons_append, FitsL]
    exact ⟨d, _, rfl, h1, fitsL_app h2 h'⟩
theorem szL_app (l r : List D) : szL (l ++ r) = szL l + szL r := by
  induction l with
  | nil => simp [szL]
  | cons x l ih => simp only [List.cons_append, szL, ih]; omega
theorem rdAt_cells : ∀ {ds : List D} {vs : List Value} {b off : Nat}, RdL (exW w) w ds noPl vs → (∀ (j : Nat) (v : Value), vs[j]? = some v → w.cell? ⟨b, off + j, none⟩ = some v) → (∀ v ∈ vs, v.oneCell' = true) → RdAt (exW w) w ds b off
  | [], _, _, _, _, _, _ => by simp [RdAt]
  | d :: ds, vs, b, off, h, hc, ho => by
    simp only [RdL] at h
    obtain ⟨v, r, rfl, h1, h2⟩ := h
    have hv := hc 0 v rfl
    simp only [RdAt]
    exact ⟨exW_cell hv, ⟨v, hv, ho v (by simp), h1⟩, rdAt_cells h2 (fun j u hj => by have := hc (j + 1) u (by simpa using hj); rwa [show off + (j + 1) = off + 1 + j by omega] at this) (fun u hu => ho u (by simp [hu]))⟩
theorem rdRows_at {n : Nat} : ∀ {rows : List (List D)} {b off : Nat}, (∀ r ∈ rows, r.length = n) → (∀ (i : Nat) (r : List D), rows[i]? = some r → RdAt S w r b (off + i * n)) → RdRows S w rows b off
  | [], _, _, _, _ => by simp [RdRows]
  | r :: rs, b, off, hl, h => by
    simp only [RdRows]
    have h0 := h 0 r rfl
    rw [Nat.zero_mul, Nat.add_zero] at h0
    refine ⟨h0, rdRows_at (fun q hq => hl q (by simp [hq])) fun i q hi => ?_⟩
    have := h (i + 1) q (by simpa using hi)
    rw [hl r (by simp)]
    rwa [Nat.succ_mul, show off + (i * n + n) = off + n + i * n by omega] at this
theorem szR_le {H : Type} : ∀ {rows : List (List D)} {xs : List (DataW H)}, rows.length = xs.length → (∀ (i : Nat) (r : List D) (x : DataW H), rows[i]? = some r → xs[i]? = some x → szL r ≤ blk x) → szR rows ≤ blkL xs
  | [], [], _, _ => by simp [szR, blkL]
  | r :: rs, x :: xs, hl, h => by
    have h0 := h 0 r x rfl rfl
    have := szR_le (rows := rs) (xs := xs) (by simpa using hl) (fun i q y hq hy => h (i + 1) q y (by simpa using hq) (by simpa using hy))
    simp only [szR, blkL]; omega
end
def Opn {H : Type} (w : World) (shs : List Sh) (vs : List Value) (x : DataW H) : Prop :=
  ∃ ds, FitsL shs ds ∧ RdL (exW w) w ds noPl vs ∧ szL ds ≤ blk x
section
variable {H : Type} {enc : TypeId × Value → H} {P : Program} [Fen P] {w : World} {sp : Nat → Bool} {hd : Bool}
theorem open_fields {n fuel : Nat} (ih : ∀ t shs vs (x : DataW H × List MemPlace), shT P n t = some shs → DataW.trod enc P w 0 sp hd fuel t vs = some x → blk x.1 < 140737488355328 → Opn w shs vs x.1) :
    ∀ (fs : List Field) (off : Nat) (shs : List Sh) (vs : List Value) (xs : List (DataW H × List MemPlace)), shF (shT P n) P fs off = some shs → vs.length = shs.length → xs.length = fs.length →
      (∀ (i : Nat) (f : Field), fs[i]? = some f → DataW.trod enc P w 0 sp hd fuel f.type ((vs.drop (f.offset - off)).take (P.cellsOf f.type)) = xs[i]?) → blkL (xs.map (·.1)) < 140737488355328 → ∃ ds, FitsL shs ds ∧ RdL (exW w) w ds noPl vs ∧ szL ds ≤ blkL (xs.map (·.1))
  | [], _, shs, vs, xs, h, hl, hx, _, _ => by
    simp only [shF, Option.some.injEq] at h
    subst h
    have : vs = [] := List.length_eq_zero_iff.1 hl
    subst this
    exact ⟨[], by simp [FitsL], by simp [RdL], by simp [szL]⟩
  | f :: fs, off, shs, vs, xs, h, hl, hx, hf, hb => by
    simp only [shF] at h
    split at h
    · rename_i cs rest h1 h2
      split at h
      · rename_i hc
        simp only [Option.some.injEq] at h
        subst h
        cases xs with
        | nil => simp at hx
        | cons x xs =>
          have h0 := hf 0 f rfl
          rw [hc.1, Nat.sub_self, List.drop_zero] at h0
          simp only [List.getElem?_cons_zero] at h0
          simp only [List.map_cons, blkL] at hb
          obtain ⟨ds, g1, g2, g3⟩ := ih f.type cs _ x h1 h0 (by omega)
          have hlv : P.cellsOf f.type ≤ vs.length := by rw [hl, List.length_append, hc.2]; omega
          obtain ⟨es, k1, k2, k3⟩ := open_fields ih fs (off + P.cellsOf f.type) rest (vs.drop (P.cellsOf f.type)) xs h2 (by rw [List.length_drop, hl, List.length_append, hc.2]; omega) (by simpa using hx) (fun i g hg => by
            have := hf (i + 1) g (by simpa using hg)
            rw [List.getElem?_cons_succ] at this
            rw [← this, List.drop_drop]
            have hoff : ∀ (fs : List Field) (o : Nat) (ss : List Sh), shF (shT P n) P fs o = some ss → ∀ (i : Nat) (g : Field), fs[i]? = some g → o ≤ g.offset := by
              intro fs
              induction fs with
              | nil => intro o ss _ i g hg; simp at hg
              | cons a r ihh =>
                intro o ss hs i g hg
                simp only [shF] at hs
                split at hs
                · rename_i c1 r1 e1 e2
                  split at hs
                  · rename_i hcc
                    cases i with
                    | zero => simp at hg; subst hg; omega
                    | succ i => have := ihh _ _ e2 i g (by simpa using hg); omega
                  · cases hs
                · cases hs
            have := hoff fs _ _ h2 i g hg
            congr 2; congr 1; omega) (by omega)
          refine ⟨ds ++ es, fitsL_app g1 k1, ?_, ?_⟩
          · have := rdL_append g2 k2
            rwa [List.take_append_drop] at this
          · rw [szL_app]; simp only [List.map_cons, blkL]; omega
      · cases h
    · cases h
theorem open_sh : ∀ (n fuel : Nat) (t : TypeId) (shs : List Sh) (vs : List Value) (x : DataW H × List MemPlace), shT P n t = some shs → DataW.trod enc P w 0 sp hd fuel t vs = some x → blk x.1 < 140737488355328 → Opn w shs vs x.1
  | 0, _, _, _, _, _, h, _, _ => by simp [shT] at h
  | n + 1, fuel, t, shs, vs, x, h, hx, hb => by
    simp only [shT] at h
    split at h
    · rename_i k ht
      simp only [Option.some.injEq] at h
      subst h
      obtain ⟨m, rfl, rfl, hw⟩ := DataW.trod_int ht hx
      exact ⟨[.int k m], by simp only [FitsL, Fits]; exact ⟨_, _, rfl, ⟨⟨m, hw⟩, rfl⟩, rfl⟩, by simp [RdL, Rd], by simp [szL, szD, blk]⟩
    · rename_i ht
      simp only [Option.some.injEq] at h
      subst h
      obtain ⟨m, rfl, rfl⟩ := DataW.trod_bool ht hx
      exact ⟨[.bool m], by simp [FitsL, Fits], by simp [RdL, Rd], by simp [szL, szD, blk]⟩
    · rename_i ht
      simp only [Option.some.injEq] at h
      subst h
      obtain ⟨s, rfl, rfl, _⟩ := DataW.trod_string ht hx
      simp only [blk] at hb
      refine ⟨[.str s.data.toList], by simp [FitsL, Fits], ?_, by simp [szL, szD, blk]⟩
      simp only [RdL, Rd]
      exact ⟨_, _, rfl, ⟨by simp, by omega⟩, rfl⟩
    · rename_i e ht
      split at h
      · rename_i c cs he
        split at h
        · rename_i hce
          simp only [Option.some.injEq] at h
          subst h
          rcases DataW.trod_slice ht hx with ⟨rfl, rfl⟩ | ⟨a, len, cap, elems, rest, m, rfl, rfl, rfl, _, hl, hm, hlen, hel, _, _⟩
          · refine ⟨[.sl (shL (c :: cs)) []], ?_, ?_, by simp [szL, szD, szR, blk]⟩
            · simp only [FitsL, Fits]; exact ⟨_, _, rfl, ⟨[], rfl, by simp⟩, rfl⟩
            · simp only [RdL, Rd]; exact ⟨_, _, rfl, ⟨none, 0, rfl, by simp, by simp, by simp, by simp⟩, rfl⟩
          · simp only [blk] at hb
            have each : ∀ i, i < len → ∃ r : List D, ∃ vs' x', FitsL (c :: cs) r ∧ RdL (exW w) w r noPl vs' ∧ szL r ≤ blk x' ∧ (elems.map (·.1))[i]? = some x' ∧ vs'.length = (c :: cs).length ∧
                ∀ (j : Nat) (v : Value), vs'[j]? = some v → w.cell? ((a.add (i * P.cellsOf e)).add j) = some v := fun i hi => by
              have h1 := hel i hi
              obtain ⟨y, hy⟩ : ∃ y, elems[i]? = some y := ⟨elems[i]'(by omega), List.getElem?_eq_getElem (by omega)⟩
              rw [hy, Option.bind_eq_some_iff] at h1
              obtain ⟨vs', hv1, hv2⟩ := h1
              obtain ⟨_, hvl, hvc⟩ := World.cells?_some hv1
              have hy' : (elems.map (·.1))[i]? = some y.1 := by rw [List.getElem?_map, hy]; rfl
              have := blk_at hy'
              obtain ⟨ds, g1, g2, g3⟩ := open_sh n m e (c :: cs) vs' y he hv2 (by omega)
              refine ⟨ds, vs', y.1, g1, g2, g3, hy', by rw [hvl, hce], fun j v hj => ?_⟩
              rw [hvc j (by have := (List.getElem?_eq_some_iff.1 hj).1; omega)]
              exact hj
            obtain ⟨R, hR⟩ := Go.Deep.choose_lt each
            have hrl : ∀ r ∈ (List.range len).map R, r.length = shL (c :: cs) := fun r hr => by
              obtain ⟨i, hi, rfl⟩ := List.mem_map.1 hr
              obtain ⟨_, _, g1, _⟩ := hR i (List.mem_range.1 hi)
              rw [fitsL_len g1, shL_len]
            have hat : ∀ {i r}, ((List.range len).map R)[i]? = some r → i < len ∧ r = R i := fun {i r} hi => by
              have hil : i < len := by have := (List.getElem?_eq_some_iff.1 hi).1; simpa using this
              rw [List.getElem?_map, List.getElem?_range hil] at hi
              exact ⟨hil, by simpa using hi.symm⟩
            refine ⟨[.sl (shL (c :: cs)) ((List.range len).map R)], ?_, ?_, ?_⟩
            · simp only [FitsL, Fits]
              refine ⟨_, _, rfl, ⟨_, rfl, fun r hr => ?_⟩, rfl⟩
              obtain ⟨i, hi, rfl⟩ := List.mem_map.1 hr
              obtain ⟨_, _, g1, _⟩ := hR i (List.mem_range.1 hi)
              exact g1
            · simp only [RdL, Rd]
              refine ⟨_, _, rfl, ⟨some a, cap, by simp, by simpa using hl, ?_, hrl, ?_⟩, rfl⟩
              · have : elems.length ≤ blkL (elems.map (·.1)) := by
                  have one : ∀ d : DataW H, 1 ≤ blk d := fun d => by
                    cases d with
                    | lit l => cases l <;> simp [blk]
                    | nil => simp [blk]
                    | ptr d => simp [blk]
                    | slice a b => simp [blk]
                    | agg a => simp [blk]
                    | iface t d => simp [blk]
                    | map e => simp [blk]
                    | held h => simp [blk]
                  generalize elems = l
                  induction l with
                  | nil => simp [blkL]
                  | cons y l ih => have := one y.1; simp only [List.map_cons, blkL, List.length_cons]; omega
                simp only [List.length_map, List.length_range]; omega
              · by_cases h0 : len = 0
                · subst h0; exact .inl rfl
                · right
                  have hspot : a.spot = none := by
                    obtain ⟨vs', x', g1, g2, g3, g4, g5, g6⟩ := hR 0 (by omega)
                    obtain ⟨v, hv⟩ : ∃ v, vs'[0]? = some v := ⟨vs'[0]'(by rw [g5]; simp), List.getElem?_eq_getElem (by rw [g5]; simp)⟩
                    have := g6 0 v hv
                    rw [Nat.zero_mul] at this
                    simpa [Addr.add] using World.cell?_spot this
                  obtain ⟨b, off, spot⟩ := a
                  simp only at hspot
                  subst hspot
                  refine ⟨b, off, rfl, rdRows_at hrl fun i r hi => ?_⟩
                  obtain ⟨hil, rfl⟩ := hat hi
                  obtain ⟨vs', x', g1, g2, g3, g4, g5, g6⟩ := hR i hil
                  refine rdAt_cells g2 (fun j v hj => ?_) (fitsL_one g1 g2)
                  have := g6 j v hj
                  rw [shL_len, ← hce]
                  have e1 : ((⟨b, off, none⟩ : Addr).add (i * P.cellsOf e)).add j = ⟨b, off + i * P.cellsOf e + j, none⟩ := by
                    unfold Addr.add
                    by_cases c1 : i * P.cellsOf e = 0 <;> by_cases c2 : j = 0 <;> simp [c1, c2]
                  rwa [e1] at this
            · simp only [szL, szD, blk]
              have := szR_le (rows := (List.range len).map R) (xs := elems.map (·.1)) (by simp; omega) (fun i r y hi hy => by
                obtain ⟨hil, rfl⟩ := hat hi
                obtain ⟨vs', x', g1, g2, g3, g4, g5, g6⟩ := hR i hil
                rw [hy] at g4
                cases g4
                exact g3)
              omega
        · cases h
      · cases h
    · rename_i fs ht
      split at h
      · rename_i cs hcs
        split at h
        · rename_i hct
          simp only [Option.some.injEq] at h
          subst h
          obtain ⟨xs, m, rfl, rfl, hvl, hxl, hf⟩ := DataW.trod_struct ht hx
          simp only [blk] at hb
          obtain ⟨ds, g1, g2, g3⟩ := open_fields (fun t shs vs x => open_sh n m t shs vs x) fs.toList 0 cs vs xs hcs (by rw [hvl, hct]) (by simpa using hxl) (fun i f hi => by
            rw [Nat.sub_zero]; exact hf i f (by simpa using hi)) (by omega)
          exact ⟨ds, g1, g2, by simp only [blk]; omega⟩
        · cases h
      · cases h
    · cases h
def isSt (P : Program) (t : TypeId) : Bool := match P.underlying t with | some (.struct _) => true | _ => false
def argOf (b : Bool) (ds : List D) : D := match b with | true => .agg ds | false => ds.headD .any
def FitA (N : Nat) : List (Bool × List Sh) → List D → Prop
  | [], ds => ds = []
  | (b, shs) :: r, ds => ∃ cs q, ds = argOf b cs :: q ∧ (FitsL shs cs ∧ szL cs ≤ N) ∧ FitA N r q
theorem open_arg {n : Nat} {t : TypeId} {shs : List Sh} {base : Nat} {v : Value} {x : DataW H} {ps : List MemPlace} (hs : shT P n t = some shs) (hv : Value.okWide P w .any base t v) (h : DataW.Trod enc P w 0 sp hd t v x ps) (hb : blk x < 140737488355328) :
    ∃ cs, FitsL shs cs ∧ Rd (exW w) w (argOf (isSt P t) cs) noPl v ∧ szL cs ≤ blk x := by
  obtain ⟨fuel, h⟩ := h
  obtain ⟨ds, g1, g2, g3⟩ := open_sh n fuel t shs _ (x, ps) hs h hb
  refine ⟨ds, g1, ?_, g3⟩
  cases n with
  | zero => simp [shT] at hs
  | succ n =>
    simp only [shT] at hs
    have one : ∀ {v : Value} {shs : List Sh}, (∃ c, shs = [c]) → FitsL shs ds → RdL (exW w) w ds noPl [v] → Rd (exW w) w (argOf false ds) noPl v := fun {v shs} hc hf hr => by
      obtain ⟨c, rfl⟩ := hc
      simp only [FitsL] at hf
      obtain ⟨d, r, rfl, _, rfl⟩ := hf
      simp only [RdL] at hr
      obtain ⟨u, r', e, h1, rfl⟩ := hr
      cases e
      exact h1
    unfold Value.okWide at hv
    unfold isSt
    split at hs
    · rename_i k ht
      rw [ht] at hv ⊢
      simp only [Option.some.injEq] at hs
      have hcell : v.cells.toList = [v] := by
        simp only [Cell.okWide, ht] at hv
        unfold Cell.ok at hv
        rw [ht] at hv
        cases v <;> first | rfl | exact hv.elim
      rw [hcell] at g2
      exact one ⟨_, hs.symm⟩ g1 g2
    · rename_i ht
      rw [ht] at hv ⊢
      simp only [Option.some.injEq] at hs
      have hcell : v.cells.toList = [v] := by
        simp only [Cell.okWide, ht] at hv
        unfold Cell.ok at hv
        rw [ht] at hv
        cases v <;> first | rfl | exact hv.elim
      rw [hcell] at g2
      exact one ⟨_, hs.symm⟩ g1 g2
    · rename_i ht
      rw [ht] at hv ⊢
      simp only [Option.some.injEq] at hs
      have hcell : v.cells.toList = [v] := by
        simp only [Cell.okWide, ht] at hv
        unfold Cell.ok at hv
        rw [ht] at hv
        cases v <;> first | rfl | exact hv.elim
      rw [hcell] at g2
      exact one ⟨_, hs.symm⟩ g1 g2
    · rename_i e ht
      rw [ht] at hv ⊢
      have hcell : v.cells.toList = [v] := by
        simp only [Cell.okWide, ht] at hv
        unfold Cell.ok at hv
        rw [ht] at hv
        cases v <;> first | rfl | exact hv.elim
      rw [hcell] at g2
      split at hs
      · split at hs
        · simp only [Option.some.injEq] at hs
          exact one ⟨_, hs.symm⟩ g1 g2
        · cases hs
      · cases hs
    · rename_i fs ht
      rw [ht] at hv ⊢
      obtain ⟨cs, rfl, _⟩ := hv
      simp only [argOf, Rd]
      exact ⟨cs.toList, by simp, g2, fitsL_one g1 g2⟩
    · cases hs
def shA (P : Program) (n : Nat) : List TypeId → Option (List (Bool × List Sh))
  | [] => some []
  | t :: ts => match shT P n t, shA P n ts with
    | some shs, some r => some ((isSt P t, shs) :: r)
    | _, _ => none
theorem open_args {n N : Nat} (hN : N < 140737488355328) : ∀ {ts : List TypeId} {shs : List (Bool × List Sh)} {vs : List Value} {ds : List (DataW H)} {ps : List MemPlace} {base : Nat}, shA P n ts = some shs → DataW.TrodAll enc P w 0 sp hd ts vs ds ps →
    (∀ (j : Nat) (t : TypeId) (v : Value), ts[j]? = some t → vs[j]? = some v → Value.okWide P w .any base t v) → blkL ds ≤ N → ∃ es, FitA N shs es ∧ RdL (exW w) w es noPl vs
  | [], shs, vs, ds, ps, base, hs, h, hv, hb => by
    simp only [shA, Option.some.injEq] at hs
    subst hs
    cases vs <;> cases ds <;> simp only [DataW.TrodAll] at h
    exact ⟨[], by simp [FitA], by simp [RdL]⟩
  | t :: ts, shs, vs, ds, ps, base, hs, h, hv, hb => by
    simp only [shA] at hs
    split at hs
    · rename_i s r h1 h2
      simp only [Option.some.injEq] at hs
      subst hs
      cases vs <;> cases ds <;> simp only [DataW.TrodAll] at h
      rename_i v vs x xs
      obtain ⟨p, q, g1, g2, rfl⟩ := h
      simp only [blkL] at hb
      obtain ⟨cs, k1, k2, k3⟩ := open_arg h1 (hv 0 t v rfl rfl) g1 (by omega)
      obtain ⟨es, m1, m2⟩ := open_args hN h2 g2 (fun j t v ht hv' => hv (j + 1) t v (by simpa using ht) (by simpa using hv')) (by omega)
      exact ⟨argOf (isSt P t) cs :: es, by simp only [FitA]; exact ⟨cs, es, rfl, ⟨k1, by omega⟩, m1⟩, by simp only [RdL]; exact ⟨v, vs, rfl, k2, m2⟩⟩
    · cases hs
theorem trodAll_stays (hl : laidOutB P = true) {W W' : World} {sp' : Nat → Bool} (hb : Below W.heap.size W W') : ∀ {ts : List TypeId} {vs : List Value} {ds : List (DataW H)} {ps : List MemPlace},
    (ts.all fun t => P.readableRec t && decide (t < P.types.size)) = true → DataW.TrodAll enc P W 0 (fun _ => true) true ts vs ds ps → (∀ x ∈ ps, x.block < W.heap.size) → (∀ x ∈ ps, sp' x.block = true) → DataW.TrodAll enc P W' 0 sp' true ts vs ds ps
  | [], vs, ds, ps, _, h, _, _ => by cases vs <;> cases ds <;> simp only [DataW.TrodAll] at h ⊢; exact h
  | t :: ts, vs, ds, ps, hr, h, hlt, hsp => by
    simp only [List.all_cons, Bool.and_eq_true, decide_eq_true_eq] at hr
    cases vs <;> cases ds <;> simp only [DataW.TrodAll] at h ⊢
    obtain ⟨p, q, g1, g2, rfl⟩ := h
    exact ⟨p, q, WideElems.Trod_stays hl hr.1.1 hr.1.2 g1 (fun x hx => hb.same (hlt x (by simp [hx]))) (fun x hx => hsp x (by simp [hx])),
      trodAll_stays hl hb hr.2 g2 (fun x hx => hlt x (by simp [hx])) (fun x hx => hsp x (by simp [hx])), rfl⟩
theorem post_kept {f : Func} {s : ChangeSpec} {apart fresh handsOn again : Bool} {W W' : World} {args : Array Value} {v : Value} {ds gs : List (DataW H)} {before pa pv : List MemPlace}
    (hW : DataW.Whole enc P f.params.toList s.vars apart W args.toList ds gs before)
    (hres : ∀ (b : Nat) (sp : Nat → Bool) (hd : Bool), DataW.TrodAll enc P W' b sp hd f.resultTypes.toList (v.resultList f.resultTypes.size) (s.fn H (ds ++ gs)).results [])
    (hargs : ∀ sp : Nat → Bool, (∀ p ∈ before, sp p.block = true) → DataW.TrodAll enc P W' 0 sp true f.params.toList args.toList (s.fn H (ds ++ gs)).args pa)
    (hvars : ∀ sp : Nat → Bool, (∀ p ∈ before, sp p.block = true) → DataW.TrodVars enc P W' sp s.vars (s.fn H (ds ++ gs)).vars pv)
    (hps : before = pa ++ pv) (hk : W.keptBut W' (· ∈ before)) (hfz : ∀ a : Addr, a.block < W.heap.size → W'.frozen? a = W.frozen? a)
    (hok : ∀ (j : Nat) (t : TypeId) (r : Value), f.resultTypes[j]? = some t → (v.resultList f.resultTypes.size)[j]? = some r → Value.okWide P W' .any 0 t r) :
    s.post enc P f apart fresh handsOn again W args v W' := by
  have hold : ∀ p ∈ before, (fun b => decide (b < W.heap.size)) p.block = true := fun p hp => by simpa using hW.lt p hp
  have hlt := hW.lt
  refine ⟨ds, gs, before, [], pa, pv, hW, hres _ _ _, hargs _ hold, hvars _ hold, World.keptBut_mono (fun p hp => ⟨hp, ?_⟩) hk, fun _ => ?_⟩
  · rw [hps, List.mem_append] at hp
    exact Or.inr hp
  · obtain ⟨_, _, _, _, _, hz, hn⟩ := hW
    refine ⟨hok, _, _, ([] ++ pa) ++ pv, ⟨[] ++ pa, pv, trodAll_append (hargs _ (fun _ _ => rfl)) (hres _ _ _), hvars _ (fun _ _ => rfl), rfl, ?_, ?_⟩, ?_⟩
    · intro b off hp
      have hp' : MemPlace.cell b off ∈ before := by rw [hps]; simpa using hp
      rw [hfz _ (hlt _ hp')]
      exact hz b off hp'
    · intro ha
      have := hn ha
      rw [hps] at this
      simpa using this
    · intro p hp _
      rw [hps]
      simpa using hp
theorem law_contract {f : Nat} {fn : Func} {s : ChangeSpec} {n tb : Nat} {shs : List (Bool × List Sh)} (hl : laidOutB P = true) (hts : shA P n fn.params.toList = some shs) (hr : (fn.params.toList.all fun t => P.readableRec t && decide (t < P.types.size)) = true)
    (hres : fn.resultTypes = #[tb]) (htb : P.underlying tb = some .bool) (hvars : s.vars = []) (hs : ∀ (H : Type) (ds : List (DataW H)), ds.length = fn.params.toList.length → s.fn H ds = { results := [.lit (.bool true)], args := ds })
    {N : Nat} (hN : N < 140737488355328) (hfc : ∀ es, FitA N shs es → FC P f [] es (.ret (.bool true)))
    {W : World} (hla : Laid P (exW W) W) {base : Nat} {args : Array Value} {ds gs : List (DataW H)} {before : List MemPlace}
    (hval : ∀ (j : Nat) (t : TypeId) (v : Value), fn.params[j]? = some t → args[j]? = some v → Value.okWide P W .any base t v)
    (hW : DataW.Whole enc P fn.params.toList s.vars false W args.toList ds gs before) (hb : blkL (ds ++ gs) ≤ N) :
    Calls P f args W fun e W' => ∃ v, e = .returned v ∧ s.post enc P fn false true false false W args v W' := by
  have hW' := hW
  obtain ⟨p, q, hA, hV, rfl, hfz, hnd⟩ := hW
  rw [hvars] at hV
  obtain ⟨rfl, rfl⟩ := trodVars_none hV
  rw [List.append_nil] at hb
  obtain ⟨es, h1, h2⟩ := open_args hN hts hA (fun j t v ht hv => hval j t v (by simpa using ht) (by simpa using hv)) hb
  have hc := (hfc es h1).2 (exW W) W [] args.toList hla (fun b hb => exW_lt hb) (by simp [RdL]) h2
  rw [List.append_nil, show args.toList.toArray = args from rfl] at hc
  have hcalls := CallsIn.calls hc (fun k d h => by cases h)
  refine Calls.mono hcalls fun e W' he => ?_
  obtain ⟨S', hbl, _, _, hend⟩ := he
  cases e with
  | returned v =>
    simp only [EndRd, OutRd, Rd] at hend
    subst hend
    have hlen : ds.length = fn.params.toList.length := by
      have : ∀ {ts : List TypeId} {vs : List Value} {ds : List (DataW H)} {ps : List MemPlace}, DataW.TrodAll enc P W 0 (fun _ => true) true ts vs ds ps → ds.length = ts.length := by
        intro ts
        induction ts with
        | nil => intro vs ds ps h; cases vs <;> cases ds <;> simp only [DataW.TrodAll] at h; rfl
        | cons t ts ih =>
          intro vs ds ps h
          cases vs <;> cases ds <;> simp only [DataW.TrodAll] at h
          obtain ⟨_, _, _, h, _⟩ := h
          simp [ih h]
      exact this hA
    have hlt : ∀ x ∈ p, x.block < W.heap.size := fun x hx => by simpa using hW'.lt x (by simp [hx])
    refine ⟨_, rfl, post_kept (pa := p) (pv := []) hW' (fun b sp hd => ?_) (fun sp hsp => ?_) (fun sp _ => ?_) rfl (hbl.frame _) (fun a ha => hbl.frozen ha) (ok_one hres rfl (okWide_bool_mk htb _))⟩
    · rw [List.append_nil, hs H ds hlen, hres]
      exact trodAll_cons_mk (shut_bool htb _) trodAll_mk0
    · rw [List.append_nil, hs H ds hlen]
      exact trodAll_stays hl hbl hr hA hlt (fun x hx => hsp x (by simp [hx]))
    · rw [List.append_nil, hs H ds hlen, hvars]; rfl
  | panicked ch => simp [EndRd, PanRd] at hend
  | outgrown => simp [EndRd] at hend
end
end Go.Tn
namespace Go.Tn
open Go.RowKit
structure DfG (P : Program) [Fen P] (g et : Nat) : Prop where
  ent : Ent P g
  idle : ∀ (ad : Addr) (w : World), CallsDIn (Fx P) 0 P g #[.pointer (some ad)] .returning w fun e u' w' => e = .returned (.tuple #[]) ∧ u' = .returning ∧ w' = w
  pan : ∀ (ad : Addr) (x n : Int) (w : World), w.cell? ad = some (.int .i64 x) → w.frozen? ad = false →
    CallsDIn (Fx P) 0 P g #[.pointer (some ad)] (.panicking (pch (.iface et (.int .i64 n)))) w fun e u' w' => e = .returned (.tuple #[]) ∧ u' = .panicking [{ v := .iface et (.int .i64 n), recovered := true }] ∧ w' = w.setCell ad (.int .i64 n)
def resB : Option LObj → Int → Prop
  | some (.blk [.int .i64 m] false), n => m = n
  | _, _ => False
def panB : Option LObj → Prop
  | some (.blk [.int .i64 _] false) => True
  | _ => False
def panE : D → Nat → Int → Prop
  | .ifc t (.int .i64 m), et, n => t = et ∧ m = n
  | _, _, _ => False
def locR : D → Nat → Prop
  | .loc j 0, i => j = i
  | _, _ => False
def finD (r i et : Nat) (n : Int) (e : X) (T : Nat → D) (H : Hp) (_U : Us) : Prop :=
  match e with
  | .normal => locR (T r) i ∧ resB (H i) n
  | .ret => locR (T r) i ∧ resB (H i) n
  | .pan d => locR (T r) i ∧ panB (H i) ∧ panE d et n
  | _ => False
theorem resB_eq {o : Option LObj} {n : Int} (h : resB o n) : o = some (.blk [.int .i64 n] false) := by
  unfold resB at h
  split at h
  · rw [h]
  · exact h.elim
theorem panB_eq {o : Option LObj} (h : panB o) : ∃ m, o = some (.blk [.int .i64 m] false) := by
  unfold panB at h
  split at h
  · exact ⟨_, rfl⟩
  · exact h.elim
theorem panE_eq {d : D} {et : Nat} {n : Int} (h : panE d et n) : d = .ifc et (.int .i64 n) := by
  unfold panE at h
  split at h
  · rw [h.1, h.2]
  · exact h.elim
theorem locR_eq {d : D} {i : Nat} (h : locR d i) : d = .loc i 0 := by
  unfold locR at h
  split at h
  · rw [h]
  · exact h.elim
def noX (_ : X) (_ : Nat → D) (_ : Hp) (_ : Us) : Prop := False
section
variable {P : Program} [Fen P] {C : Spec} {S S' : Ex} {p : Pl} {w w' : World}
theorem leaves_marks2 {F : Fence} {n : Nat} {fn : Func} {tmps : Array Value} {Rr : Ending → World → Prop} {n0 : Nat} {u : FrameMode} (hu : u ≠ .run) {d0 : List Deferred} : ∀ (ds : List Deferred) (w : World), Mks n0 ds w → (∀ w', Dn n0 w w' → LeavesInM F n P fn tmps Rr d0 u w') →
    LeavesInM F n P fn tmps Rr (ds ++ d0) u w
  | [], w, _, h => h w (Dn.refl _ _)
  | d :: ds, w, hm, h => by
    obtain ⟨r, e, hr, hb⟩ := hm.is d (by simp)
    refine ⟨hu, .inl ⟨r, w.putObj r (.deferred none), by rw [e], run_takeDeferred hb, ?_⟩⟩
    have hdn : Dn n0 w (w.putObj r (.deferred none)) := ⟨rfl, rfl, rfl, by simp, fun b hb => World.putObj_heap_other (by omega), fun b o ho hd => (World.putObj_heap_other (fun e => by subst e; rw [hb] at ho; cases ho; exact hd _ rfl)).trans ho⟩
    refine leaves_marks2 hu ds _ ⟨fun d' hd' => ?_, (List.pairwise_cons.1 hm.nd).2⟩ (fun w' hw => h w' (hdn.trans hw))
    obtain ⟨r', e', hr', hb'⟩ := hm.is d' (by simp [hd'])
    refine ⟨r', e', hr', (World.putObj_heap_other (fun er => ?_)).trans hb'⟩
    have := (List.pairwise_cons.1 hm.nd).1 d' hd'
    exact this (by rw [e, e', er])
theorem run_ta_nil {t xt : Nat} {z : Ty} (hf : TyFact P t z) (hk : z.kind = .int .i64) (hz : z.zero = [.int .i64 0]) (w : World) : (Instr.typeAssert .nilIface xt t true).run P w = .ok (.tuple #[.int .i64 0, .bool false]) w := by
  obtain ⟨d, hd, hu⟩ := hf.und
  rw [hk] at hu
  simp only at hu
  subst hu
  obtain ⟨v, hv, _, hz2⟩ := hf.zeroV w
  simp only [hk, TK.agg, Bool.false_eq_true, if_false, hz] at hz2
  obtain ⟨v', h1, rfl, _⟩ := hz2
  simp only [List.cons.injEq, and_true] at h1
  subst h1
  unfold Instr.typeAssert underlying
  simp [Sem.run_bind, run_program, hd, Result.andThen_ok, hv]
theorem run_ta_yes {t xt : Nat} {z : Ty} (hf : TyFact P t z) (hk : z.kind = .int .i64) (v : Value) (w : World) : (Instr.typeAssert (.iface t v) xt t true).run P w = .ok (.tuple #[v, .bool true]) w := by
  obtain ⟨d, hd, hu⟩ := hf.und
  rw [hk] at hu
  simp only at hu
  subst hu
  unfold Instr.typeAssert underlying
  simp [Sem.run_bind, run_program, hd, Result.andThen_ok]
theorem oneSet {w : World} {b : Nat} {v u : Value} {t : TypeId} (h : w.heap[b]? = some (.cells #[v] t (0, 0))) : (w.setCell ⟨b, 0, none⟩ u).heap[b]? = some (.cells #[u] t (0, 0)) := by
  rw [heap_setCell_same w b 0 _ _ _ h]; rfl
theorem run_results1 {fn : Func} {r rt : Nat} {z : Ty} (hf : TyFact P rt z) (hz : z.kind.agg = false) (hr : fn.results = #[.cell r rt]) {tmps : Array Value} {b : Nat} (ht : tmps.getD r undef = .pointer (some ⟨b, 0, none⟩)) {w : World} {v : Value} (hc : w.cell? ⟨b, 0, none⟩ = some v) :
    (results fn tmps).run P w = .ok v w := by
  unfold results
  rw [hr]
  simp only [List.mapM_toArray, List.mapM_cons, List.mapM_nil, Sem.run_bind, Sem.run_map, ht, asAddr, loadVar, Result.andThen_ok, Sem.run_pure, hf.isAgg w, hz]
  simp [hc, Sem.run_bind, Result.andThen]
def baseN (S : Ex) (w : World) : Base := { n0 := w.heap.size, mb := fun _ => false, w0 := w, S0 := S, it := false, l := 0, lr := default, ys := [], J := fun _ _ _ _ _ => False, Jok := fun _ _ _ _ _ _ _ h => h.elim, Kp := fun S' w' => Keep S S' w w', Kpok := fun _ _ _ _ h k => h.trans k, L0 := [], q := fun _ => gnil, d0 := [], nm := true, Jp := fun _ _ _ => False }
def baseD (S : Ex) (w : World) (ds : List Deferred) (i : Nat) (g : G) : Base := { n0 := w.heap.size, mb := fun _ => false, w0 := w, S0 := S, it := false, l := 0, lr := default, ys := [], J := fun _ _ _ _ _ => False, Jok := fun _ _ _ _ _ _ _ h => h.elim, Kp := fun S' w' => Keep S S' w w', Kpok := fun _ _ _ _ h k => h.trans k, L0 := [i], q := fun _ => g, d0 := ds, nm := false, Jp := fun _ _ _ => False }
theorem fcd_of {f g et rt r tf id i : Nat} {fn : Func} {c0 c2 : Code} {mf df : Oper} {caps args : List D} {n : Int} {hd : Hd} {z : Ty} (hm : P.follows .mixedOrders = true) (hf : P.funcs[f]? = some fn) (hname : (fn.name == "runtime.NumGoroutine") = false)
    (hb : fn.body = some (c0.seq ((Code.region id #[mf, df] false).seq c2))) (hr : fn.results = #[.cell r rt]) (hz : TyFact P rt z) (hza : z.kind.agg = false)
    (hmf : mf.op = .makeFunc (.func g) #[] #[.tmp r] ∧ mf.dst = some tf ∧ mf.guard = none) (hdf : df.op = .defer { callee := .value (.tmp tf), args := #[], argTypes := #[] } ∧ df.dst = none ∧ df.guard = none) (hrt : tf ≠ r ∧ tf < fn.ntmps)
    (hc0 : chkC C.js fn.ntmps c0 = true ∧ noRg c0 = true) (hc2 : chkC C.js fn.ntmps c2 = true) (hg : DfG P g et)
    (hr1 : mkT hd.t r = .loc i 0 ∧ mkT hd.t tf = .any ∧ panB (mkH hd.o i))
    (h1 : M ⟨P, C, noX, []⟩ c0 (argT 0 (args ++ caps)) (fun _ => none) (fun _ => false) [.lp (fun T H U => entH [] hd T H U)])
    (h2 : M ⟨P, C, finD r i et n, [i]⟩ c2 (mkT hd.t) (mkH hd.o) (mkU hd.o) []) : FC P f caps args (.ret (.int .i64 n)) := by
  have hfs : (P.funcs[f]?).isSome = true := by rw [hf]; rfl
  refine ⟨⟨fn, hf, hname, by rw [hb]; rfl⟩, fun S w cs vs hla hext ha1 ha2 => ?_⟩
  haveI : LB P (baseN S w) := ⟨fun S' w' h => hla.mono h⟩
  have hargs := rdL_append ha2 ha1
  have hlen := rdL_len hargs
  refine callsIn_of_wp_marks (F := Fx P) hf hb (fun _ => hfs) ?_
  have hR : R (baseN S w) fn.ntmps S noPl (argT 0 (args ++ caps)) (fun _ => none) (fun _ => false)
      { tmps := (vs ++ cs).toArray ++ Array.replicate (fn.ntmps - (vs ++ cs).toArray.size) undef, defers := [] } w :=
    ⟨args_rd hargs, by simp; omega, ⟨fun i o hi => by simp at hi, fun i j o o' g g' b hi => by simp at hi, fun i g hg => by simp [noPl] at hg, hext, fun _ _ _ _ => rfl, Nat.le_refl _, fun _ => SameOut.refl _ _ _, fun i ys d st hi => by simp at hi, fun i hi => by simp at hi, fun i ys d st g b hi => by simp at hi⟩,
      Marks.nil, Keep.refl _ _, fun i hi => (by cases hi)⟩
  have h1' : vc P C c0 (baseN S w).L0 (argT 0 (args ++ caps)) (fun _ => none) (fun _ => false) (unw ⟨P, C, noX, []⟩ [] [.lp (fun T H U => entH [] hd T H U)]) := h1
  refine wpIn_seq (vc_sound (B := baseN S w) (ro := none) hm c0 (fun h => by cases h) (fun h => by cases h) (.inl hc0.2) hc0.1 h1' hR (fun e x S' p' T' H' U' a' w' hx hk' hR' => ?_) (fun _ _ _ _ h _ => h.elim))
  cases e with
  | exit i => exact hk'.elim
  | goto l => exact hk'.elim
  | ret => exact hk'.elim
  | pan d => exact hk'.elim
  | normal =>
    obtain rfl := hx
    have hR1 := ent_sound hR' hk'
    have hnd : a'.defers = [] := hR1.dfs.2 rfl
    generalize hp1 : cutP p' (mkU hd.o) = p1 at hR1
    have hrd := hR1.tmp r
    rw [hr1.1] at hrd
    simp only [Rd] at hrd
    obtain ⟨g0, hg0, hv0⟩ := hrd
    have htf : tf < a'.tmps.size := Nat.lt_of_lt_of_le hrt.2 hR1.size
    show Code.wpIn _ _ _ _ _ _ _
    refine wpIn_seq (wpIn_region ?_)
    have hmk : ∀ (fn : Fn) (first cap : Array Value) (w : World), (Instr.makeFunc fn first cap).run P w = .ok (.func fn first cap) w := fun _ _ _ _ => rfl
    obtain ⟨mo, mop, mty, mpos, maf, mg⟩ := mf
    obtain ⟨do_, dop, dty, dpos, daf, dg⟩ := df
    simp only at hmf hdf
    obtain ⟨rfl, rfl, rfl⟩ := hmf
    obtain ⟨rfl, rfl, rfl⟩ := hdf
    have hput : ∀ v : Value, (a'.put (some tf) v).tmps.getD tf undef = v := fun v => by rw [getD_put htf]; simp
    have hx1 : ∀ (ρ : Operand → Value) (w : World), (Oper.semAt Fence.wide.round ρ { dst := some tf, op := .makeFunc (.func g) #[] #[.tmp r], type := mty, pos := mpos, after := maf, guard := none }).run P w = .ok (.value (.func (.func g) #[] #[ρ (.tmp r)])) w := fun ρ w => by
      show (Oper.semAt none ρ _).run P w = _
      rw [Oper.semAt_none]
      simp [execOp, hmk, Sem.run_bind, Result.andThen]
    have hx2 : ∀ (ρ : Operand → Value) (w : World) (pv : Value), ρ (.tmp tf) = .func (.func g) #[] #[pv] → (Oper.semAt Fence.wide.round ρ { dst := none, op := .defer { callee := .value (.tmp tf), args := #[], argTypes := #[] }, type := dty, pos := dpos, after := daf, guard := none }).run P w = .ok (.defer { target := .fn (.func g) #[pv], args := #[] }) w := fun ρ w pv h => by
      show (Oper.semAt none ρ _).run P w = _
      rw [Oper.semAt_none]
      simp [execOp, resolve, Deferred.ofValue, h, Sem.run_bind, Result.andThen]
    have hev : (a'.put (some tf) (.func (.func g) #[] #[a'.eval (.tmp r)])).eval (.tmp tf) = .func (.func g) #[] #[a'.eval (.tmp r)] := hput _
    have her : a'.eval (.tmp r) = .pointer (some ⟨g0.ptr, 0, none⟩) := hv0
    simp only [wpOpsIn, List.size_toArray, List.length_cons, List.length_nil, Nat.zero_add, Nat.reduceAdd, List.range_succ, List.range_zero, List.nil_append, List.cons_append, List.getElem?_toArray, List.getElem?_cons_zero, List.getElem?_cons_succ, Region.wanted, if_true, Oper.wpIn, Oper.about, hx1, hx2 _ _ _ hev, Oper.uponIn, reduceCtorEq, false_implies, implies_true, true_and]
    rw [her]
    have hR2 : R (baseD S w [{ target := .fn (.func g) #[.pointer (some ⟨g0.ptr, 0, none⟩)], args := #[] }] i g0) fn.ntmps S' p1 (mkT hd.t) (mkH hd.o) (mkU hd.o)
        (({ a'.put (some tf) (.func (.func g) #[] #[.pointer (some ⟨g0.ptr, 0, none⟩)]) with defers := { target := .fn (.func g) #[.pointer (some ⟨g0.ptr, 0, none⟩)], args := #[] } :: (a'.put (some tf) (.func (.func g) #[] #[.pointer (some ⟨g0.ptr, 0, none⟩)])).defers } : Act).put none undef) w' := by
      have hh := hR1.hp
      refine ⟨fun t => ?_, ?_, ⟨hh.obj, hh.inj, hh.use, hh.ext, hh.old, hh.size, hh.bel, hh.yid, hh.lid, hh.env⟩, ?_, hR1.kp, ?_⟩
      · show Rd S' w' (mkT hd.t t) p1 ((a'.put (some tf) _).tmps.getD t undef)
        rw [getD_put htf]
        by_cases e : t = tf
        · rw [if_pos e, e, hr1.2.1]; simp [Rd]
        · rw [if_neg e]; exact hR1.tmp t
      · have := hR1.size; simpa [Act.put] using this
      · have : (a'.put (some tf) (.func (.func g) #[] #[.pointer (some ⟨g0.ptr, 0, none⟩)])).defers = a'.defers := rfl
        refine ⟨⟨[], ?_, fun d hd => (by cases hd), List.Pairwise.nil⟩, fun h => by cases h⟩
        simp [Act.put, hnd, baseD]
      · intro k hk
        simp only [baseD, List.mem_singleton] at hk
        subst hk
        exact ⟨g0, hg0, GLe.refl _⟩
    have h2' : vc P C c2 (baseD S w [{ target := .fn (.func g) #[.pointer (some ⟨g0.ptr, 0, none⟩)], args := #[] }] i g0).L0 (mkT hd.t) (mkH hd.o) (mkU hd.o) (finD r i et n) := h2
    haveI : LB P (baseD S w [{ target := .fn (.func g) #[.pointer (some ⟨g0.ptr, 0, none⟩)], args := #[] }] i g0) := ⟨fun S' w' h => hla.mono h⟩
    refine vc_sound (ro := none) hm c2 (fun h => by cases h) (fun h => by cases h) (.inr ⟨rfl, rfl, rfl⟩) hc2 h2' hR2 (fun e x S2 p2 T2 H2 U2 a2 w2 hx hk2 hR3 => ?_) (fun _ _ _ _ h _ => h.elim)
    obtain ⟨⟨ms, hms, hmk2⟩, _⟩ := hR3.dfs
    have hms' : a2.defers = ms ++ [{ target := .fn (.func g) #[.pointer (some ⟨g0.ptr, 0, none⟩)], args := #[] }] := hms
    have hbel := (hR3.hp.bel rfl).below
    obtain ⟨gi, hgi, hge⟩ := hR3.lk i (by simp [baseD])
    have hptr : gi.ptr = g0.ptr := hge.1
    have hown : ∀ {m : Int}, H2 i = some (.blk [.int .i64 m] false) → ∃ ty, w2.heap[g0.ptr]? = some (.cells #[.int .i64 m] ty (0, 0)) ∧ w.heap.size ≤ g0.ptr := fun {m} hi => by
      obtain ⟨g', hg', vs', ty, hc, _, ho, hv, _, _⟩ := hR3.hp.obj i _ hi
      rw [hgi] at hg'; cases hg'
      simp only [if_false, Bool.false_eq_true] at hv
      obtain ⟨v, r', rfl, h1, h2⟩ := hv
      simp only [RdL] at h2; subst h2
      simp only [Rd] at h1; subst h1
      rw [hptr] at hc ho
      refine ⟨ty, by simpa using hc, ?_⟩
      rcases ho with h | h
      · exact h
      · cases h
    have hres : locR (T2 r) i → a2.tmps.getD r undef = .pointer (some ⟨g0.ptr, 0, none⟩) := fun h => by
      have := hR3.tmp r
      rw [locR_eq h] at this
      simp only [Rd] at this
      obtain ⟨g', hg', e⟩ := this
      rw [hgi] at hg'; cases hg'
      rw [e, hptr]
    have hinv : ∀ w, (invoke (.fn (.func g) #[.pointer (some ⟨g0.ptr, 0, none⟩)]) #[]).run P w = .ok (.enter g #[.pointer (some ⟨g0.ptr, 0, none⟩)]) w := fun w => by
      unfold invoke
      simp only [Array.empty_append]
      exact run_enter hg.ent _ w
    have hcell : ∀ {w : World} {b : Nat} {v : Value} {ty : TypeId}, w.heap[b]? = some (.cells #[v] ty (0, 0)) → w.cell? ⟨b, 0, none⟩ = some v := fun {w b v ty} h => by simp [World.cell?, h]
    have below2 : ∀ {w3 : World}, Dn w.heap.size w2 w3 → Below w.heap.size w w3 := fun {w3} hd => ⟨hd.os.trans hbel.os, hd.tape.trans hbel.tape, hd.output.trans hbel.output, by rw [hd.size]; exact hbel.size, fun b hb => (hd.low b hb).trans (hbel.block b hb)⟩
    have done : locR (T2 r) i ∧ resB (H2 i) n → LeavesInM (Fx P) 0 P fn a2.tmps (fun e w' => ∃ S', Below w.heap.size w w' ∧ (∀ b, b < w.heap.size → S' b = S b) ∧ (∀ b, 0 < S' b → b < w'.heap.size) ∧ EndRd w.heap.size S' w' (.ret (.int .i64 n)) e) a2.defers .returning w2 := fun hk => by
      obtain ⟨ty, hc, hle⟩ := hown (resB_eq hk.2)
      rw [hms']
      refine leaves_marks2 (by simp) ms w2 hmk2 (fun w3 hd3 => ⟨by simp, .inr ⟨fun h => (by cases h), _, _, g, _, rfl, hinv w3, fun k hk => ?_, (hg.idle _ w3).mono ?_⟩⟩)
      · simp only [Target.leads, Option.some.injEq] at hk; subst hk; exact fun _ => hg.ent.fn
      · rintro e u' w' ⟨rfl, rfl, rfl⟩
        refine ⟨_, run_results1 hz hza hr (hres hk.1) (hcell (hd3.keep _ _ hc (fun x e => by cases e))), S2, below2 hd3, fun b hb => hR3.hp.old rfl b hb rfl, fun b hb => by rw [hd3.size]; exact hR3.hp.ext b hb, by simp [EndRd, OutRd, Rd]⟩
    cases e with
    | exit j => exact hk2.elim
    | goto l => exact hk2.elim
    | normal => obtain rfl := hx; exact done hk2
    | ret => obtain rfl := hx; exact done hk2
    | pan d =>
      obtain ⟨v, rfl, hdv⟩ := hx
      obtain ⟨hl, hpB, hpE⟩ := hk2
      rw [panE_eq hpE] at hdv
      simp only [Rd] at hdv
      obtain ⟨u, rfl, rfl⟩ := hdv
      obtain ⟨m, hm2⟩ := panB_eq hpB
      obtain ⟨ty, hc, hle⟩ := hown hm2
      show LeavesInM (Fx P) 0 P fn a2.tmps _ a2.defers (.panicking (pch (.iface et (.int .i64 n)))) w2
      rw [hms']
      refine leaves_marks2 (by simp) ms w2 hmk2 (fun w3 hd3 => ⟨by simp, .inr ⟨fun h => (by cases h), _, _, g, _, rfl, hinv w3, fun k hk => ?_, (hg.pan _ m n w3 (hcell (hd3.keep _ _ hc (fun x e => by cases e))) ?_).mono ?_⟩⟩)
      · simp only [Target.leads, Option.some.injEq] at hk; subst hk; exact fun _ => hg.ent.fn
      · have := hd3.keep _ _ hc (fun x e => by cases e)
        simp [World.frozen?, this]
      · rintro e u' w' ⟨rfl, rfl, rfl⟩
        have hc3 := hd3.keep _ _ hc (fun x e => by cases e)
        have hb4 := (below2 hd3).setCell (p := ⟨g0.ptr, 0, none⟩) hle (.int .i64 n)
        refine ⟨_, run_results1 hz hza hr (hres hl) (hcell (oneSet hc3)), S2, hb4, fun b hb => hR3.hp.old rfl b hb rfl, fun b hb => ?_, by simp [EndRd, OutRd, Rd]⟩
        have h1 := hR3.hp.ext b hb
        rw [← hd3.size] at h1
        simpa [World.setCell] using h1
def finCB (agg : Bool) (n : Nat) (o : Option LObj) (out : Out) (H : Hp) : Prop := match o with | some (.blk cs _) => cs.length = n ∧ finK out (mkD agg cs) H | _ => False
def finC (r i : Nat) (agg : Bool) (n : Nat) (out : Out) (e : X) (T : Nat → D) (H : Hp) (_U : Us) : Prop :=
  match e with
  | .normal => locR (T r) i ∧ finCB agg n (H i) out H
  | .ret => locR (T r) i ∧ finCB agg n (H i) out H
  | .pan d => panF out d
  | _ => False
end
end Go.Tn
namespace Go.Tn
open Go.RowKit
theorem map_id_of {α : Type} {e : α → List D} {d : List D → α} {rows : List (List D)} (h : ∀ r ∈ rows, r = e (d r)) : rows = (rows.map d).map e := by
  rw [List.map_map]
  exact (List.map_id _).symm.trans (List.map_congr_left fun r hr => h r hr)
theorem fits_P {rows : List (List D)} (h : ∀ r ∈ rows, FitsL [.int .i64, .int .i64] r) : rows = (rows.map dP).map eP := map_id_of fun r hr => by
  have := h r hr
  simp only [FitsL, Fits] at this
  obtain ⟨_, _, rfl, ⟨n, rfl⟩, _, _, rfl, ⟨m, rfl⟩, rfl⟩ := this; rfl
theorem fits_S {rows : List (List D)} (h : ∀ r ∈ rows, FitsL [.str] r) : rows = (rows.map dS).map eS := map_id_of fun r hr => by
  have := h r hr
  simp only [FitsL, Fits] at this
  obtain ⟨_, _, rfl, ⟨n, rfl⟩, rfl⟩ := this; rfl
theorem fits_sP {d : D} (h : Fits (.slc [.int .i64, .int .i64]) d) : ∃ l : List (Int × Int), d = .sl 2 (l.map eP) := by
  unfold Fits at h
  obtain ⟨r, rfl, g⟩ := h
  exact ⟨r.map dP, by rw [← fits_P g]; rfl⟩
theorem fits_i {k : IntKind} {d : D} (h : Fits (.int k) d) : ∃ n, d = .int k n := by
  simp only [Fits] at h
  obtain ⟨n, h⟩ := h
  exact ⟨n.1, h⟩
end Go.Tn
