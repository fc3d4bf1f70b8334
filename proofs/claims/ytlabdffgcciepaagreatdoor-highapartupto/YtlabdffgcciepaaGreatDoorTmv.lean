/- Symbolic data, and what the operations do to it. -/
import Derived.Test.YtlabdffgcciepaaGreatDoorTnv
set_option linter.unusedSimpArgs false
set_option linter.unusedVariables false
set_option linter.unusedSectionVars false
namespace Go.Tn
open Go.RowKit
section
variable {P : Program} {B : Base} {S : Ex} {p : Pl} {w : World} {H : Hp} {U : Us} {t : Nat} {ty : Ty}
def mvER (i : Nat) (o : Option LObj) (ty kty ety : Ty) (k : D) (H : Hp) (U : Us) : Res :=
  match o with
  | some (.mv ks ms) => match mfind kty ks k with
    | some (some s) => .ok True ((ty.kind = .map ∧ (eqK kty k k).isSome = true) ∧ ms.length = ks.length) (.tup [.vec (ms.getD s (0, 0)).1 (ms.getD s (0, 0)).2, .int .i64 s]) (upd H i (some (.mv ks ms))) U
    | some none => .ok True ((ty.kind = .map ∧ (eqK kty k k).isSome = true) ∧ ms.length = ks.length) (.tup [zeroD ety, .int .i64 ks.length]) (upd H i (some (.mv (ks ++ [k]) ms))) U
    | none => .bad
  | _ => .bad
theorem good_mvE (hh : Heap B S p H U w) (hf : TyFact P t ty) {kty ety : Ty} (hk : TyFact P ty.key kty) (he : TyFact P ty.elem ety) {i : Nat} {k : D} {m u : Value} (hx : Rd S w (.lmap i) p m) (hu : Rd S w k p u) :
    Good P B S p w (Instr.mapEntry t m u) (mvER i (H i) ty kty ety k H U) := by
  unfold mvER
  split
  · rename_i ks ms ho
    split
    · rename_i s hmf
      refine ⟨trivial, fun hc => ?_⟩
      obtain ⟨⟨hk1, hk2⟩, hl⟩ := hc
      simp only [Rd] at hx; obtain ⟨g, hg, rfl⟩ := hx
      obtain ⟨g', hg', hr⟩ := hh.obj i _ ho
      rw [hg] at hg'; cases hg'
      obtain ⟨es, c, hm, hown, hn0, h1, h2, hS, hbo⟩ := hr
      have h1p : RdL S w ks p (es.map (·.key)) := RdL.mono (Keep.refl _ _) _ (PlLe.none p) h1
      have hum := hf.map hk1
      have hck := run_checkKeyD hk hk2 hu
      have hfk := run_findKeyD hk hu hmf h1p
      have hkl : es.length = ks.length := maplen h1
      have hj := mfind_lt hmf
      have hat := mfind_at hmf
      obtain ⟨kv, hkv, hkd⟩ := rdL_get h1p s hj
      obtain ⟨e1, e2⟩ := eqK_same hat hu hkd
      have hej : s < es.length := by omega
      have hkv' : es[s].key = kv := by
        have : (es.map (·.key))[s]? = some es[s].key := by simp [hej]
        rw [this] at hkv; exact Option.some.inj hkv
      have hlt := (Array.getElem?_eq_some_iff.1 hm).1
      have hmod : es.modify s (fun e => ({ key := u, val := e.val, born := e.born } : MapEntry)) = es := by
        rw [List.modify_eq_set, List.getElem?_eq_getElem hej]
        simp only [Option.map_some, Option.getD_some]
        rw [e1, ← hkv']
        exact List.set_getElem_self hej
      have hbs := hbo.1 s _ (List.getElem?_eq_getElem hej)
      have hrun : (Instr.mapEntry t (.map (some g.ptr)) u).run P w = .ok (.tuple #[es[s].val, .int .i64 s]) { w with heap := w.heap.setIfInBounds g.ptr (.map es.toArray c) } := by
        simp [Instr.mapEntry, run_und hum, getObj, Sem.run, hm, hck, hfk, setObj, hej, Instr.keyThatStays, hkv', e2, hmod, goInt, hbs]
      have hrel : ObjRel B S p { w with heap := w.heap.setIfInBounds g.ptr (.map es.toArray c) } g (.mv ks ms) := by
        have hk' : Keep S S w { w with heap := w.heap.setIfInBounds g.ptr (.map es.toArray c) } := Keep.of_zero (row := some g.ptr) ⟨rfl, rfl, rfl, by simp, fun k _ hk => by simp only []; rw [Array.getElem?_setIfInBounds_ne (fun e => hk (by rw [e]))]⟩ hh.ext (fun b e => by cases e; exact hS) (fun b x e h => by cases e; rw [hm] at h; cases h)
        exact ⟨es, c, by simp [hlt], hown, hn0, RdL.mono hk' _ (PlLe.refl _) h1, RdL.mono hk' _ (PlLe.refl _) h2, hS, hbo⟩
      obtain ⟨a1, a2⟩ := heap_putObj hh ho hg hown hS _ hrel (fun _ _ _ e => by cases e) (fun e => by cases e) (fun x h => by rw [hm] at h; cases h)
      refine ⟨_, _, S, p, hrun, ?_, a1, a2, PlLe.refl _⟩
      have hsm : s < ms.length := by omega
      obtain ⟨v, hv, hd⟩ := rdL_get h2 s (by simpa [nvD] using hsm)
      have hv' : v = es[s].val := by
        rw [List.getElem?_take_of_lt hsm] at hv
        simpa [hej] using hv.symm
      subst hv'
      have e1' : (nvD ms).getD s .any = .vec (ms.getD s (0, 0)).1 (ms.getD s (0, 0)).2 := by
        simp [nvD, List.getD_eq_getElem?_getD, List.getElem?_eq_getElem hsm]
      rw [e1'] at hd
      exact ⟨_, rfl, _, _, rfl, Rd.mono a2 _ (PlLe.refl _) hd, _, _, rfl, rfl, rfl⟩
    · rename_i hmf
      refine ⟨trivial, fun hc => ?_⟩
      obtain ⟨⟨hk1, hk2⟩, hl⟩ := hc
      simp only [Rd] at hx; obtain ⟨g, hg, rfl⟩ := hx
      obtain ⟨g', hg', hr⟩ := hh.obj i _ ho
      rw [hg] at hg'; cases hg'
      obtain ⟨es, c, hm, hown, hn0, h1, h2, hS, hbo⟩ := hr
      have h1p : RdL S w ks p (es.map (·.key)) := RdL.mono (Keep.refl _ _) _ (PlLe.none p) h1
      have hum := hf.map hk1
      have hck := run_checkKeyD hk hk2 hu
      have hfk := run_findKeyD hk hu hmf h1p
      have hkl : es.length = ks.length := maplen h1
      have hlt := (Array.getElem?_eq_some_iff.1 hm).1
      obtain ⟨z, hz, hzd⟩ := rd_zero (S := S) (p := p) he w
      have hc0 := hbo.2
      have hrun : (Instr.mapEntry t (.map (some g.ptr)) u).run P w = .ok (.tuple #[z, .int .i64 ks.length]) { w with heap := w.heap.setIfInBounds g.ptr (.map (es ++ [({ key := u, val := z, born := c } : MapEntry)]).toArray (c + 1)) } := by
        simp [Instr.mapEntry, run_und hum, getObj, Sem.run, hm, hck, hfk, setObj, hz, goInt, hc0, hkl]
      have hk' : Keep S S w { w with heap := w.heap.setIfInBounds g.ptr (.map (es ++ [({ key := u, val := z, born := c } : MapEntry)]).toArray (c + 1)) } := Keep.of_zero (row := some g.ptr) ⟨rfl, rfl, rfl, by simp, fun k _ hk => by simp only []; rw [Array.getElem?_setIfInBounds_ne (fun e => hk (by rw [e]))]⟩ hh.ext (fun b e => by cases e; exact hS) (fun b x e h => by cases e; rw [hm] at h; cases h)
      have hrel : ObjRel B S p { w with heap := w.heap.setIfInBounds g.ptr (.map (es ++ [({ key := u, val := z, born := c } : MapEntry)]).toArray (c + 1)) } g (.mv (ks ++ [k]) ms) := by
        refine ⟨_, _, by simp [hlt], hown, hn0, by rw [List.map_append]; exact rdL_append (RdL.mono hk' _ (PlLe.refl _) h1) ⟨u, [], rfl, Rd.mono hk' _ (PlLe.refl _) (pure_key hk2 hu), rfl⟩, ?_, hS, bornOk_push hbo u z⟩
        rw [List.map_append, List.take_append_of_le_length (by simp; omega)]
        exact RdL.mono hk' _ (PlLe.refl _) h2
      obtain ⟨a1, a2⟩ := heap_putObj hh ho hg hown hS _ hrel (fun _ _ _ e => by cases e) (fun e => by cases e) (fun x h => by rw [hm] at h; cases h)
      exact ⟨_, _, S, p, hrun, ⟨_, rfl, _, _, rfl, Rd.mono a2 _ (PlLe.refl _) hzd, _, _, rfl, rfl, rfl⟩, a1, a2, PlLe.refl _⟩
    · trivial
  · trivial
def mvSR (i j n : Nat) (s : Nat) (mo jo : Option LObj) (ty : Ty) (H : Hp) (U : Us) : Res :=
  match mo, jo with
  | some (.mv ks ms), some (.vec e sz rows fz) =>
    if s = ms.length then .ok True ((ty.kind = .map ∧ ks.length = s + 1 ∧ rows.length = n) ∧ U (inn i s) = false ∧ i ≠ j) .any
      (upd (upd (upd H j none) (inn i s) (some (.vec e sz rows fz))) i (some (.mv ks (ms ++ [(inn i s, n)])))) (upd U (inn i s) true)
    else .ok True ((ty.kind = .map ∧ ks.length = ms.length ∧ s < ms.length) ∧ (ms.getD s (0, 0)).1 = j ∧ i ≠ j) .any (upd H i (some (.mv ks (ms.set s (j, n))))) U
  | _, _ => .bad
theorem born_find {es : List MapEntry} {c s : Nat} (h : bornOk es c) (hs : s < es.length) : es.findIdx? (fun e => (e.born : Int) == (s : Int)) = some s := by
  rw [List.findIdx?_eq_some_iff_getElem]
  refine ⟨hs, ?_, fun j hj => ?_⟩
  · have := h.1 s _ (List.getElem?_eq_getElem hs)
    simp [this]
  · have := h.1 j _ (List.getElem?_eq_getElem (by omega))
    simp [this]; omega
theorem good_mvS (hh : Heap B S p H U w) (hf : TyFact P t ty) {i j n s : Nat} {m u st : Value} (hx : Rd S w (.lmap i) p m) (hs : st = .int .i64 (s : Int)) (hu : Rd S w (.vec j n) p u) :
    GoodU P B S p w (Instr.entryStore t m st u) (mvSR i j n s (H i) (H j) ty H U) := by
  unfold mvSR
  split
  · rename_i ko jo ks ms e sz rows fz ho hjo
    subst hs
    by_cases hsm : s = ms.length
    · rw [if_pos hsm]
      refine ⟨trivial, fun hc => ?_, rfl⟩
      obtain ⟨⟨hk1, hkl, hrn⟩, hU, hij⟩ := hc
      simp only [Rd] at hx; obtain ⟨g, hg, rfl⟩ := hx
      obtain ⟨gj, hgj, _⟩ := hh.obj j _ hjo
      obtain ⟨hh1, hpl1⟩ := hh.move hjo hgj hU
      have hin : i ≠ inn i s := by unfold inn; omega
      have ho1 : upd (upd H j none) (inn i s) (some (.vec e sz rows fz)) i = some (.mv ks ms) := by rw [upd_ne _ _ hin, upd_ne _ _ hij]; exact ho
      have hg1 : upd p (inn i s) (some gj) i = some g := by rw [upd_ne _ _ hin]; exact hg
      obtain ⟨g', hg', hr⟩ := hh1.obj i _ ho1
      rw [hg1] at hg'; cases hg'
      obtain ⟨es, c, hm, hown, hn0, h1, h2, hS, hbo⟩ := hr
      have hel : es.length = ks.length := maplen h1
      have hes : s < es.length := by omega
      have hlt := (Array.getElem?_eq_some_iff.1 hm).1
      have hfi := born_find hbo hes
      have hmod : es.modify s (fun e => ({ key := e.key, val := u, born := e.born } : MapEntry)) = es.set s ({ key := es[s].key, val := u, born := es[s].born } : MapEntry) := by
        simp [List.modify_eq_set, hes]
      have hrun : (Instr.entryStore t (.map (some g.ptr)) (.int .i64 (s : Int)) u).run P w = .ok () { w with heap := w.heap.setIfInBounds g.ptr (.map (es.set s ({ key := es[s].key, val := u, born := es[s].born } : MapEntry)).toArray c) } := by
        simp [Instr.entryStore, getObj, Sem.run, hm, setObj, asInt, asIntOf, hfi, hmod]
      have hk' : Keep S S w { w with heap := w.heap.setIfInBounds g.ptr (.map (es.set s ({ key := es[s].key, val := u, born := es[s].born } : MapEntry)).toArray c) } := Keep.of_zero (row := some g.ptr) ⟨rfl, rfl, rfl, by simp, fun k _ hk => by simp only []; rw [Array.getElem?_setIfInBounds_ne (fun e => hk (by rw [e]))]⟩ hh.ext (fun b e => by cases e; exact hS) (fun b x e h => by cases e; rw [hm] at h; cases h)
      have hvl : (es.map (·.val)).length = ms.length + 1 := by simp; omega
      have hu1 : Rd S w (.vec (inn i s) n) (upd p (inn i s) (some gj)) u := by
        simp only [Rd] at hu ⊢
        obtain ⟨g0, hg0, hu⟩ := hu
        rw [hgj] at hg0; cases hg0
        exact ⟨gj, upd_same _ _ _, hu⟩
      have hrel : ObjRel B S (upd p (inn i s) (some gj)) { w with heap := w.heap.setIfInBounds g.ptr (.map (es.set s ({ key := es[s].key, val := u, born := es[s].born } : MapEntry)).toArray c) } g (.mv ks (ms ++ [(inn i s, n)])) := by
        refine ⟨es.set s ({ key := es[s].key, val := u, born := es[s].born } : MapEntry), c, by simp [hlt], hown, hn0, ?_, ?_, hS, bornOk_set hbo (fun e0 he0 => by rw [List.getElem?_eq_getElem hes] at he0; cases he0; rfl)⟩
        · rw [List.map_set]
          have : (es.map (·.key)).set s es[s].key = es.map (·.key) := by
            apply List.ext_getElem?
            intro q
            rw [List.getElem?_set]
            by_cases hq : s = q
            · subst hq; simp [hes]
            · simp [hq]
          rw [this]
          exact RdL.mono hk' _ (PlLe.refl _) h1
        · have e1 : ((es.set s ({ key := es[s].key, val := u, born := es[s].born } : MapEntry)).map (·.val)).take (ms ++ [(inn i s, n)]).length = (es.map (·.val)).take ms.length ++ [u] := by
            rw [List.map_set, List.length_append, List.length_singleton, ← hsm]
            apply List.ext_getElem?
            intro q
            rw [List.getElem?_take]
            by_cases hq : q < s
            · rw [if_pos (by omega), List.getElem?_set_ne (by omega), List.getElem?_append_left (by simp; omega), List.getElem?_take_of_lt hq]
            · by_cases hq2 : q = s
              · subst hq2
                rw [if_pos (by omega), List.getElem?_append_right (by simp; omega)]
                have : (q - (List.take q (es.map (·.val))).length) = 0 := by simp; omega
                rw [this]; simp [hes]
              · rw [if_neg (by omega), List.getElem?_append_right (by simp; omega)]
                have : ∃ k, q - (List.take s (es.map (·.val))).length = k + 1 := ⟨q - s - 1, by simp; omega⟩
                obtain ⟨k, hk⟩ := this
                rw [hk]; simp
          rw [e1]
          have happ : nvD (ms ++ [(inn i s, n)]) = nvD ms ++ [.vec (inn i s) n] := by simp [nvD]
          rw [happ]
          exact rdL_append (RdL.mono hk' _ (PlLe.refl _) h2) ⟨u, [], rfl, Rd.mono hk' _ (PlLe.refl _) hu1, rfl⟩
      obtain ⟨a1, a2⟩ := heap_putObj hh1 ho1 hg1 hown hS _ hrel (fun _ _ _ e => by cases e) (fun e => by cases e) (fun x h => by rw [hm] at h; cases h)
      exact ⟨_, S, _, hrun, a1, a2, hpl1⟩
    · rw [if_neg hsm]
      refine ⟨trivial, fun hc => ?_, rfl⟩
      obtain ⟨⟨hk1, hkl, hlt0⟩, hj, hij⟩ := hc
      simp only [Rd] at hx; obtain ⟨g, hg, rfl⟩ := hx
      obtain ⟨g', hg', hr⟩ := hh.obj i _ ho
      rw [hg] at hg'; cases hg'
      obtain ⟨es, c, hm, hown, hn0, h1, h2, hS, hbo⟩ := hr
      have hel : es.length = ks.length := maplen h1
      have hes : s < es.length := by omega
      have hlt := (Array.getElem?_eq_some_iff.1 hm).1
      have hfi := born_find hbo hes
      have hmod : es.modify s (fun e => ({ key := e.key, val := u, born := e.born } : MapEntry)) = es.set s ({ key := es[s].key, val := u, born := es[s].born } : MapEntry) := by
        simp [List.modify_eq_set, hes]
      have hrun : (Instr.entryStore t (.map (some g.ptr)) (.int .i64 (s : Int)) u).run P w = .ok () { w with heap := w.heap.setIfInBounds g.ptr (.map (es.set s ({ key := es[s].key, val := u, born := es[s].born } : MapEntry)).toArray c) } := by
        simp [Instr.entryStore, getObj, Sem.run, hm, setObj, asInt, asIntOf, hfi, hmod]
      have hk' : Keep S S w { w with heap := w.heap.setIfInBounds g.ptr (.map (es.set s ({ key := es[s].key, val := u, born := es[s].born } : MapEntry)).toArray c) } := Keep.of_zero (row := some g.ptr) ⟨rfl, rfl, rfl, by simp, fun k _ hk => by simp only []; rw [Array.getElem?_setIfInBounds_ne (fun e => hk (by rw [e]))]⟩ hh.ext (fun b e => by cases e; exact hS) (fun b x e h => by cases e; rw [hm] at h; cases h)
      have hrel : ObjRel B S p { w with heap := w.heap.setIfInBounds g.ptr (.map (es.set s ({ key := es[s].key, val := u, born := es[s].born } : MapEntry)).toArray c) } g (.mv ks (ms.set s (j, n))) := by
        refine ⟨es.set s ({ key := es[s].key, val := u, born := es[s].born } : MapEntry), c, by simp [hlt], hown, hn0, ?_, ?_, hS, bornOk_set hbo (fun e0 he0 => by rw [List.getElem?_eq_getElem hes] at he0; cases he0; rfl)⟩
        · rw [List.map_set]
          have : (es.map (·.key)).set s es[s].key = es.map (·.key) := by
            apply List.ext_getElem?
            intro q
            rw [List.getElem?_set]
            by_cases hq : s = q
            · subst hq; simp [hes]
            · simp [hq]
          rw [this]
          exact RdL.mono hk' _ (PlLe.refl _) h1
        · have e1 : ((es.set s ({ key := es[s].key, val := u, born := es[s].born } : MapEntry)).map (·.val)).take (ms.set s (j, n)).length = ((es.map (·.val)).take ms.length).set s u := by
            rw [List.map_set, List.length_set, List.take_set]
          rw [e1]
          have happ : nvD (ms.set s (j, n)) = (nvD ms).set s (.vec j n) := by simp [nvD, List.map_set]
          rw [happ]
          exact rdL_set (RdL.mono hk' _ (PlLe.refl _) h2) (Rd.mono hk' _ (PlLe.refl _) hu)
      obtain ⟨a1, a2⟩ := heap_putObj hh ho hg hown hS _ hrel (fun _ _ _ e => by cases e) (fun e => by cases e) (fun x h => by rw [hm] at h; cases h)
      exact ⟨_, S, p, hrun, a1, a2, PlLe.refl _⟩
  · trivial
end
end Go.Tn
