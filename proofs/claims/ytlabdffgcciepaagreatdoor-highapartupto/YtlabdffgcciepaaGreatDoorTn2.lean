/- Symbolic data, and what the operations do to it. -/
import Derived.Test.YtlabdffgcciepaaGreatDoorTn1
set_option linter.unusedSimpArgs false
set_option linter.unusedVariables false
set_option linter.unusedSectionVars false
namespace Go.Tn
open Go.RowKit
inductive TK where
  | int (k : IntKind) | bool | str | slice | map | struct | array | ptr | func | iface | other
structure Ty where
  kind : TK
  zero : List Value
  flds : List (Nat × Nat × Bool)
  elem : Nat
  esz : Nat
  eagg : Bool
  key : Nat
  bytes : Nat
def Ty.none : Ty := ⟨.other, [], [], 0, 0, false, 0, 0⟩
def TK.agg : TK → Bool | .struct => true | .array => true | _ => false
def aggOf (P : Program) (t : Nat) : Bool := match P.underlying t with | some (.struct _) => true | some (.array _ _) => true | _ => false
def tseen (P : Program) (t : Nat) : Bool := (P.info? t).isSome && (P.underlying t).isSome
def cmpAt (P : Program) : Nat → List Field → List Value → Bool
  | _, [], [] => true
  | i, f :: fs, z :: zs => f.name != "_" && f.offset == i && (match P.underlying f.type, z with | some (.int _), .int _ _ => true | some .string, .string _ => true | some .bool, .bool _ => true | _, _ => false) && cmpAt P (i + 1) fs zs
  | _, _, _ => false
def cmpOf (P : Program) (t : Nat) (zs : List Value) : Bool :=
  match P.underlying t with
  | some (.struct fs) => !P.stoodInHeld t && !P.eqGuardType P.depth t && cmpAt P 0 fs.toList zs
  | _ => false
def tyOf (P : Program) (t : Nat) : Ty :=
  match P.info? t, P.underlying t with
  | some i, some d =>
    match i.zero with
    | some z =>
      if i.size = z.cells.size ∧ z.cells.toList.all (·.oneCell') = true then
        match d, z with
        | .struct fs, .agg cs => if fs.toList.all (fun f => tseen P f.type) then ⟨.struct, cs.toList, fs.toList.map fun f => (f.offset, P.cellsOf f.type, aggOf P f.type), 0, 0, cmpOf P t cs.toList, 0, i.bytes⟩ else Ty.none
        | .array n e, .agg cs => if tseen P e then ⟨.array, cs.toList, [], e, P.cellsOf e, aggOf P e, n, i.bytes⟩ else Ty.none
        | .int k, .int j n => ⟨.int k, [.int j n], [], 0, 0, false, 0, i.bytes⟩
        | .bool, .bool b => ⟨.bool, [.bool b], [], 0, 0, false, 0, i.bytes⟩
        | .string, .string s => ⟨.str, [.string s], [], 0, 0, false, 0, i.bytes⟩
        | .slice e, .slice a n c => if tseen P e then ⟨.slice, [.slice a n c], [], e, P.cellsOf e, aggOf P e, 0, i.bytes⟩ else Ty.none
        | .map k e, .map r => ⟨.map, [.map r], [], e, 0, false, k, i.bytes⟩
        | .pointer e, .pointer a => ⟨.ptr, [.pointer a], [], e, 0, false, 0, i.bytes⟩
        | .func _ _ _, .nilFunc => ⟨.func, [.nilFunc], [], 0, 0, false, 0, i.bytes⟩
        | .interface _, .nilIface => ⟨.iface, [.nilIface], [], 0, 0, false, 0, i.bytes⟩
        | _, _ => Ty.none
      else Ty.none
    | none => Ty.none
  | _, _ => Ty.none
structure TyFact (P : Program) (t : Nat) (ty : Ty) : Prop where
  info : ∃ i z, P.info? t = some i ∧ i.zero = some z ∧ i.size = ty.zero.length ∧ i.bytes = ty.bytes ∧ z.cells.toList = ty.zero ∧ (if ty.kind.agg then z = .agg ty.zero.toArray else ∃ v, ty.zero = [v] ∧ z = v ∧ v.oneCell' = true)
  one : ∀ v ∈ ty.zero, v.oneCell' = true
  und : ∃ d, P.underlying t = some d ∧ match ty.kind with
    | .struct => ∃ fs, d = .struct fs ∧ fs.toList.map (fun f => (f.offset, P.cellsOf f.type, aggOf P f.type)) = ty.flds ∧ (∀ f ∈ fs.toList, tseen P f.type = true) ∧ ty.eagg = cmpOf P t ty.zero
    | .array => d = .array ty.key ty.elem ∧ ty.esz = P.cellsOf ty.elem ∧ ty.eagg = aggOf P ty.elem ∧ tseen P ty.elem = true
    | .int k => d = .int k
    | .bool => d = .bool
    | .str => d = .string
    | .slice => d = .slice ty.elem ∧ ty.esz = P.cellsOf ty.elem ∧ ty.eagg = aggOf P ty.elem ∧ tseen P ty.elem = true
    | .map => d = .map ty.key ty.elem
    | .ptr => d = .pointer ty.elem
    | .func => ∃ a b c, d = .func a b c
    | .iface => ∃ m, d = .interface m
    | .other => False
theorem tyOf_fact {P : Program} {t : Nat} (h : (tyOf P t).kind ≠ .other) : TyFact P t (tyOf P t) := by
  unfold tyOf at h ⊢
  cases hi : P.info? t with
  | none => simp [hi, Ty.none] at h
  | some i =>
    cases hd : P.underlying t with
    | none => simp [hi, hd, Ty.none] at h
    | some d =>
      cases hz : i.zero with
      | none => simp [hi, hd, hz, Ty.none] at h
      | some z =>
        by_cases hs : i.size = z.cells.size ∧ z.cells.toList.all (·.oneCell') = true
        · have hs1 := hs.1
          have hs2 : ∀ v ∈ z.cells.toList, v.oneCell' = true := fun v hv => List.all_eq_true.1 hs.2 v hv
          simp only [hi, hd, hz] at h ⊢
          rw [if_pos hs] at h ⊢
          clear hs
          cases d <;> cases z <;> first
            | (exact absurd rfl h)
            | (refine ⟨⟨i, _, hi, hz, ?_, rfl, ?_, ?_⟩, ?_, ⟨_, hd, ?_⟩⟩ <;> simp_all [Value.cells, TK.agg, Value.oneCell']; done)
            | (simp only [] at h ⊢
               split at h
               · rename_i hc
                 rw [if_pos hc]
                 try (have hc' := List.all_eq_true.1 hc; clear hc)
                 refine ⟨⟨i, _, hi, hz, ?_, rfl, ?_, ?_⟩, ?_, ⟨_, hd, ?_⟩⟩ <;> simp_all [Value.cells, TK.agg, Value.oneCell']
               · exact absurd rfl h)
        · simp only [hi, hd, hz] at h
          rw [if_neg hs] at h
          exact absurd rfl h
def one : D → Bool
  | .any => false
  | .agg _ => false
  | .tup _ => false
  | .val v => v.oneCell'
  | _ => true
theorem one_cell {S : Ex} {w : World} {d : D} {p : Pl} {v : Value} (h : Rd S w d p v) (ho : one d = true) : v.oneCell' = true := by
  cases d <;> simp only [one, Bool.false_eq_true] at ho <;> simp only [Rd] at h
  case int => subst h; rfl
  case bool => subst h; rfl
  case str => obtain ⟨rfl, _⟩ := h; rfl
  case val => subst h; exact ho
  case nil => subst h; rfl
  case emp => obtain ⟨_, rfl⟩ := h; rfl
  case sl => obtain ⟨_, _, rfl, _⟩ := h; rfl
  case box => obtain ⟨_, _, rfl, _⟩ := h; rfl
  case mp => obtain ⟨_, _, _, rfl, _⟩ := h; rfl
  case fn => obtain ⟨_, _, rfl, _⟩ := h; rfl
  case ifc => obtain ⟨_, rfl, _⟩ := h; rfl
  case loc => obtain ⟨_, _, rfl⟩ := h; rfl
  case vec i n => obtain ⟨_, _, _, h, _⟩ := h; exact h
  case vptr i n sz k off => obtain ⟨_, _, _, h, _⟩ := h; exact h
  case lmap => obtain ⟨_, _, rfl⟩ := h; rfl
  case vsub => obtain ⟨_, _, _, h, _⟩ := h; exact h
  case yld => obtain ⟨_, _, rfl⟩ := h; rfl
def leafV : Value → D
  | .int k n => .int k n
  | .bool b => .bool b
  | .string s => if s.data.toList.length < 140737488355328 then .str s.data.toList else .any
  | .slice none 0 0 => .nil
  | v => .val v
def ofV : Value → D
  | .agg cs => if cs.toList.all (·.oneCell') then .agg (cs.toList.map leafV) else .any
  | v => leafV v
def ev (T : Nat → D) : Operand → D
  | .tmp t => T t
  | .const v => ofV v
  | .global _ => .any
  | .func f => .fn f [] []
def evs (T : Nat → D) : List Operand → List D
  | [] => []
  | x :: r => ev T x :: evs T r
def cellsOf : D → List D
  | .agg cs => cs
  | d => [d]
def okc : D → Bool
  | .agg _ => true
  | d => one d
def mkD (agg : Bool) (cs : List D) : D := if agg then .agg cs else cs.headD .any
theorem rd_leaf (S : Ex) (w : World) (p : Pl) (v : Value) : Rd S w (leafV v) p v := by
  unfold leafV
  split
  case h_3 s =>
    by_cases h : s.data.toList.length < 140737488355328
    · rw [if_pos h]; exact ⟨rfl, h⟩
    · rw [if_neg h]; simp [Rd]
  all_goals simp [Rd]
theorem rdL_map {S : Ex} {w : World} {p : Pl} {f : Value → D} (h : ∀ v, Rd S w (f v) p v) : ∀ vs : List Value, RdL S w (vs.map f) p vs
  | [] => rfl
  | v :: vs => ⟨v, vs, rfl, h v, rdL_map h vs⟩
theorem rd_ofV (S : Ex) (w : World) (p : Pl) (v : Value) : Rd S w (ofV v) p v := by
  unfold ofV
  split
  · split
    · simp only [Rd]
      rename_i cs h
      exact ⟨cs.toList, by simp, rdL_map (rd_leaf S w p) _, fun v hv => by simpa using List.all_eq_true.1 h v hv⟩
    · simp [Rd]
  · exact rd_leaf S w p _
theorem rd_ev {S : Ex} {w : World} {p : Pl} {T : Nat → D} {a : Act} (h : ∀ t, Rd S w (T t) p (a.tmps.getD t undef)) : ∀ x : Operand, Rd S w (ev T x) p (a.eval x)
  | .tmp t => h t
  | .const v => rd_ofV S w p v
  | .global g => by simp [ev, Rd]
  | .func f => by simp only [ev, Rd, Act.eval]; exact ⟨[], [], rfl, rfl, rfl⟩
theorem rd_evs {S : Ex} {w : World} {p : Pl} {T : Nat → D} {a : Act} (h : ∀ t, Rd S w (T t) p (a.tmps.getD t undef)) : ∀ xs : List Operand, RdL S w (evs T xs) p (xs.map a.eval)
  | [] => rfl
  | x :: xs => ⟨_, _, rfl, rd_ev h x, rd_evs h xs⟩
theorem rd_cells {S : Ex} {w : World} {p : Pl} {d : D} {v : Value} (h : Rd S w d p v) (ho : okc d = true) : RdL S w (cellsOf d) p v.cells.toList ∧ ∀ u ∈ v.cells.toList, u.oneCell' = true := by
  have key : ∀ d : D, one d = true → Rd S w d p v → RdL S w [d] p v.cells.toList ∧ ∀ u ∈ v.cells.toList, u.oneCell' = true := fun d ho h => by
    have h1 := one_cell h ho
    have : v.cells = #[v] := by cases v <;> first | rfl | cases h1
    rw [this]
    exact ⟨⟨v, [], rfl, h, rfl⟩, by simpa using h1⟩
  cases d <;> first
    | (exact key _ ho h)
    | (simp only [Rd] at h
       obtain ⟨vs, rfl, h1, h2⟩ := h
       exact ⟨by simpa [Value.cells, cellsOf] using h1, by simpa [Value.cells] using h2⟩)
theorem rdL_len {S : Ex} {w : World} {p : Pl} : ∀ {ds : List D} {vs : List Value}, RdL S w ds p vs → vs.length = ds.length
  | [], _, h => by simp only [RdL] at h; subst h; rfl
  | d :: ds, _, h => by obtain ⟨v, r, rfl, _, h⟩ := h; simp [rdL_len h]
theorem rdL_append {S : Ex} {w : World} {p : Pl} : ∀ {ds es : List D} {vs us : List Value}, RdL S w ds p vs → RdL S w es p us → RdL S w (ds ++ es) p (vs ++ us)
  | [], _, _, _, h, k => by simp only [RdL] at h; subst h; exact k
  | d :: ds, _, _, _, h, k => by obtain ⟨v, r, rfl, h1, h⟩ := h; exact ⟨v, _, rfl, h1, rdL_append h k⟩
theorem rdL_split {S : Ex} {w : World} {p : Pl} : ∀ {ds es : List D} {vs : List Value}, RdL S w (ds ++ es) p vs → ∃ a b, vs = a ++ b ∧ RdL S w ds p a ∧ RdL S w es p b
  | [], _, vs, h => ⟨[], vs, rfl, rfl, h⟩
  | d :: ds, _, _, h => by
    obtain ⟨v, r, rfl, h1, h⟩ := h
    obtain ⟨a, b, rfl, h2, h3⟩ := rdL_split h
    exact ⟨v :: a, b, rfl, ⟨v, a, rfl, h1, h2⟩, h3⟩
theorem rdL_take {S : Ex} {w : World} {p : Pl} : ∀ {ds : List D} {vs : List Value}, RdL S w ds p vs → ∀ n, RdL S w (ds.take n) p (vs.take n)
  | _, _, _, 0 => by simp [RdL]
  | [], _, h, n + 1 => by simp only [RdL] at h; subst h; simp [RdL]
  | d :: ds, _, h, n + 1 => by
    obtain ⟨v, r, rfl, h1, h⟩ := h
    exact ⟨v, r.take n, rfl, h1, rdL_take h n⟩
theorem rdL_drop {S : Ex} {w : World} {p : Pl} : ∀ {ds : List D} {vs : List Value}, RdL S w ds p vs → ∀ n, RdL S w (ds.drop n) p (vs.drop n)
  | _, _, h, 0 => by simpa using h
  | [], _, h, n + 1 => by simp only [RdL] at h; subst h; simp [RdL]
  | d :: ds, _, h, n + 1 => by
    obtain ⟨v, r, rfl, h1, h⟩ := h
    exact rdL_drop h n
theorem rdL_get {S : Ex} {w : World} {p : Pl} : ∀ {ds : List D} {vs : List Value}, RdL S w ds p vs → ∀ i, i < ds.length → ∃ v, vs[i]? = some v ∧ Rd S w (ds.getD i .any) p v
  | [], _, _, i, hi => by simp at hi
  | d :: ds, _, h, i, hi => by
    obtain ⟨v, r, rfl, h1, h⟩ := h
    cases i with
    | zero => exact ⟨v, rfl, h1⟩
    | succ i => simpa using rdL_get h i (by simpa using hi)
theorem rdAt_get {S : Ex} {w : World} : ∀ {ds : List D} {b off : Nat}, RdAt S w ds b off → ∃ vs : List Value, RdL S w ds noPl vs ∧ (∀ v ∈ vs, v.oneCell' = true) ∧ ∀ j v, vs[j]? = some v → w.cell? ⟨b, off + j, none⟩ = some v ∧ off + j < S b
  | [], _, _, _ => ⟨[], rfl, by simp, by simp⟩
  | d :: ds, b, off, h => by
    simp only [RdAt] at h
    obtain ⟨hs, ⟨v, hc, ho, hd⟩, h⟩ := h
    obtain ⟨vs, h1, h2, h3⟩ := rdAt_get h
    refine ⟨v :: vs, ⟨v, vs, rfl, hd, h1⟩, by simpa [ho] using h2, fun j u hu => ?_⟩
    cases j with
    | zero => simp at hu; subst hu; exact ⟨hc, hs⟩
    | succ j =>
      have := h3 j u (by simpa using hu)
      rw [show off + (j + 1) = off + 1 + j from by omega]
      exact this
theorem rdAt_mk {S : Ex} {w : World} : ∀ {ds : List D} {b off : Nat} {vs : List Value}, RdL S w ds noPl vs → (∀ v ∈ vs, v.oneCell' = true) → (∀ j v, vs[j]? = some v → w.cell? ⟨b, off + j, none⟩ = some v ∧ off + j < S b) → RdAt S w ds b off
  | [], _, _, _, _, _, _ => by simp [RdAt]
  | d :: ds, b, off, _, h, ho, hc => by
    obtain ⟨v, r, rfl, h1, h⟩ := h
    simp only [RdAt]
    refine ⟨(hc 0 v rfl).2, ⟨v, (hc 0 v rfl).1, ho v (by simp), h1⟩, rdAt_mk h (fun u hu => ho u (by simp [hu])) fun j u hu => ?_⟩
    have := hc (j + 1) u (by simpa using hu)
    rw [show off + 1 + j = off + (j + 1) from by omega]
    exact this
theorem rdAt_drop {S : Ex} {w : World} : ∀ {ds : List D} {b off : Nat} (n : Nat), RdAt S w ds b off → RdAt S w (ds.drop n) b (off + n)
  | ds, b, off, 0, h => by simpa using h
  | [], b, off, n + 1, h => by simp [RdAt]
  | d :: ds, b, off, n + 1, h => by
    simp only [RdAt] at h
    have := rdAt_drop n h.2.2
    rw [List.drop_succ_cons, show off + (n + 1) = off + 1 + n from by omega]
    exact this
theorem rdAt_take {S : Ex} {w : World} : ∀ {ds : List D} {b off : Nat} (n : Nat), RdAt S w ds b off → RdAt S w (ds.take n) b off
  | ds, b, off, 0, h => by simp [RdAt]
  | [], b, off, n + 1, h => by simp [RdAt]
  | d :: ds, b, off, n + 1, h => by
    simp only [RdAt] at h
    simp only [List.take_succ_cons, RdAt]
    exact ⟨h.1, h.2.1, rdAt_take n h.2.2⟩
end Go.Tn
