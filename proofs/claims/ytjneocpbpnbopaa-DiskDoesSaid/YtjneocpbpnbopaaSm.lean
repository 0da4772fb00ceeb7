/- Maps: made, looked up, written, ranged over. -/
import Derived.Test.YtjneocpbpnbopaaSo
import Derived.Maps.RangeRun
import Derived.MapKept
import Derived.WideKeyRuns
set_option linter.unusedVariables false
set_option linter.unusedSimpArgs false
namespace Go.Proofs.Ytjneocpbpnbopaa
open Go

class Kv (α : Type) where
  kv : α → Value
class Vv (β : Type) where
  vv : β → Value
instance : Vv Int := ⟨fun n => .int .i64 n⟩
open Kv Vv

/-- a key's type -/
class Key (P : Program) (t : TypeId) (α : Type) [DecidableEq α] [Kv α] : Prop where
  chk : ∀ (e : Bool) (w : World) (x : α), (Instr.checkKey e 10000 t (kv x)).run P w = .ok () w
  fnd : ∀ (w : World) (x : α) (es : List MapEntry) (ks : List α), es.map (·.key) = ks.map kv → (Instr.findKey t (kv x) es).run P w = .ok ((ks.findIdx? (· = x)).bind fun i => (es[i]?).map fun e => (i, e.val)) w
  bits : ∀ x : α, Instr.sameBits 10000 (kv x) (kv x) = true

section
variable {α β : Type} [Kv α] [Vv β]

def mapEs (l : List (α × β)) (bs : List Nat) : List MapEntry := List.zipWith (fun p b => ⟨kv p.1, vv p.2, b⟩) l bs
def MapB (m : Nat) (l : List (α × β)) (bs : List Nat) (c : Nat) : HP := fun w S =>
  S m ∧ w.heap[m]? = some (.map (mapEs l bs).toArray c) ∧ bs.length = l.length ∧ bs.Pairwise (· < ·) ∧ (∀ b ∈ bs, b < c) ∧ (l.map Prod.fst).Nodup
instance (m : Nat) (l : List (α × β)) (bs : List Nat) (c : Nat) : Loc (MapB m l bs c) := ⟨fun h k _ => by
  obtain ⟨h1, h2, h3⟩ := h
  obtain ⟨k1, k2⟩ := k m (lt_of_heap h2) h1
  exact ⟨k1, k2.trans h2, h3⟩⟩
def MapA (m : Nat) (l : List (α × β)) : HP := Ex fun p : List Nat × Nat => MapB m l p.1 p.2
instance (m : Nat) (l : List (α × β)) : Loc (MapA m l) := inferInstanceAs (Loc (Ex _))

theorem mapEs_nil {l : List (α × β)} : mapEs l [] = [] := by cases l <;> rfl
theorem mapEs_cons {l : List (α × β)} {p : α × β} {b : Nat} {bs : List Nat} : mapEs (p :: l) (b :: bs) = ⟨kv p.1, vv p.2, b⟩ :: mapEs l bs := rfl
theorem mapEs_keys : ∀ {l : List (α × β)} {bs : List Nat}, bs.length = l.length → (mapEs l bs).map (·.key) = (l.map Prod.fst).map kv
  | [], [], _ => rfl
  | [], _ :: _, h => by simp at h
  | _ :: _, [], h => by simp at h
  | p :: l, b :: bs, h => by rw [mapEs_cons, List.map_cons, mapEs_keys (by simpa using h)]; rfl
theorem mapEs_born : ∀ {l : List (α × β)} {bs : List Nat}, bs.length = l.length → (mapEs l bs).map (·.born) = bs
  | [], [], _ => rfl
  | [], _ :: _, h => by simp at h
  | _ :: _, [], h => by simp at h
  | p :: l, b :: bs, h => by rw [mapEs_cons, List.map_cons, mapEs_born (by simpa using h)]
theorem mapEs_get {l : List (α × β)} {bs : List Nat} {i : Nat} {p : α × β} {b : Nat} (h1 : l[i]? = some p) (h2 : bs[i]? = some b) : (mapEs l bs)[i]? = some ⟨kv p.1, vv p.2, b⟩ := by
  unfold mapEs; simp [List.getElem?_zipWith, h1, h2]
theorem mapEs_len {l : List (α × β)} {bs : List Nat} (h : bs.length = l.length) : (mapEs l bs).length = l.length := by unfold mapEs; simp [h]
theorem mapEs_snoc {l : List (α × β)} {bs : List Nat} (h : bs.length = l.length) (p : α × β) (b : Nat) : mapEs (l ++ [p]) (bs ++ [b]) = mapEs l bs ++ [⟨kv p.1, vv p.2, b⟩] := by
  unfold mapEs
  rw [List.zipWith_append h.symm]; rfl
end

section
variable {α β : Type} [DecidableEq α]
/-- what stands at a key -/
def getM (l : List (α × β)) (k : α) : Option β := (l.find? (fun p => p.1 = k)).map Prod.snd
def addM (l : List (α × β)) (k : α) (z : β) : List (α × β) := if k ∈ l.map Prod.fst then l else l ++ [(k, z)]
/-- a key's value, set -/
def putM (l : List (α × β)) (k : α) (y : β) : List (α × β) := if k ∈ l.map Prod.fst then l.map (fun p => if p.1 = k then (k, y) else p) else l ++ [(k, y)]
theorem idx_of {l : List (α × β)} {k : α} : (l.map Prod.fst).findIdx? (· = k) = l.findIdx? (fun p => p.1 = k) := by
  rw [List.findIdx?_map]; rfl
theorem getM_idx (l : List (α × β)) (k : α) : getM l k = match l.findIdx? (fun p => p.1 = k) with | some i => (l[i]?).map Prod.snd | none => none := by
  unfold getM
  induction l with
  | nil => rfl
  | cons p l ih =>
    by_cases h : p.1 = k
    · simp [List.find?_cons, List.findIdx?_cons, h]
    · simp only [List.find?_cons, List.findIdx?_cons, h, decide_false]
      rw [ih]
      cases l.findIdx? (fun p => p.1 = k) <;> simp
theorem idx_some {l : List (α × β)} {k : α} {i : Nat} (h : l.findIdx? (fun p => p.1 = k) = some i) : ∃ v, l[i]? = some (k, v) ∧ getM l k = some v ∧ k ∈ l.map Prod.fst := by
  have h0 := h
  rw [List.findIdx?_eq_some_iff_getElem] at h
  obtain ⟨hl, h1, _⟩ := h
  have hk : l[i].1 = k := by simpa using h1
  refine ⟨l[i].2, by rw [List.getElem?_eq_getElem hl, ← hk], by rw [getM_idx, h0]; simp [hl], ?_⟩
  rw [← hk]; exact List.mem_map_of_mem (List.getElem_mem _)
theorem idx_none {l : List (α × β)} {k : α} (h : l.findIdx? (fun p => p.1 = k) = none) : getM l k = none ∧ k ∉ l.map Prod.fst := by
  refine ⟨by rw [getM_idx, h], fun hm => ?_⟩
  rw [List.findIdx?_eq_none_iff] at h
  obtain ⟨p, hp, rfl⟩ := List.mem_map.1 hm
  simpa using h p hp
theorem set_putM {l : List (α × β)} (hn : (l.map Prod.fst).Nodup) {k : α} {z v y : β} {j : Nat} (hj : (addM l k z)[j]? = some (k, v)) : (addM l k z).set j (k, y) = putM l k y := by
  unfold addM at hj ⊢
  unfold putM
  by_cases hm : k ∈ l.map Prod.fst
  · rw [if_pos hm] at hj ⊢; rw [if_pos hm]
    obtain ⟨hjl, hjk⟩ := List.getElem?_eq_some_iff.1 hj
    apply List.ext_getElem
    · simp
    · intro i h1 h2
      rw [List.getElem_set, List.getElem_map]
      have hil : i < l.length := by simpa using h1
      by_cases hij : j = i
      · subst hij; rw [if_pos rfl, if_pos (by rw [hjk])]
      · rw [if_neg hij, if_neg]
        intro he
        have hx : (l.map Prod.fst)[i]'(by simpa using hil) = (l.map Prod.fst)[j]'(by simpa using hjl) := by simp [he, hjk]
        rcases Nat.lt_or_gt_of_ne hij with h | h
        · exact (List.pairwise_iff_getElem.1 hn j i (by simpa using hjl) (by simpa using hil) h) hx.symm
        · exact (List.pairwise_iff_getElem.1 hn i j (by simpa using hil) (by simpa using hjl) h) hx
  · rw [if_neg hm] at hj ⊢; rw [if_neg hm]
    have hjl : j = l.length := by
      rcases Nat.lt_or_ge j l.length with h | h
      · rw [List.getElem?_append_left h] at hj
        exact absurd (List.mem_map_of_mem (f := Prod.fst) (List.mem_of_getElem? hj)) hm
      · rw [List.getElem?_append_right h] at hj
        have := (List.getElem?_eq_some_iff.1 hj).1
        simp at this; omega
    subst hjl
    simp
theorem getM_addM {l : List (α × β)} {k : α} {z : β} : ∃ j : Nat, ∃ v, (addM l k z)[j]? = some (k, v) ∧ v = (getM l k).getD z := by
  unfold addM
  cases hi : l.findIdx? (fun p => p.1 = k) with
  | some i =>
    obtain ⟨v, h1, h2, h3⟩ := idx_some hi
    exact ⟨i, v, by rw [if_pos h3]; exact h1, by rw [h2]; rfl⟩
  | none =>
    obtain ⟨h1, h2⟩ := idx_none hi
    exact ⟨l.length, z, by rw [if_neg h2]; simp, by rw [h1]; rfl⟩
theorem getM_putM {l : List (α × β)} {k k' : α} {y : β} : getM (putM l k y) k' = if k' = k then some y else getM l k' := by
  unfold putM getM
  by_cases hm : k ∈ l.map Prod.fst
  · rw [if_pos hm]
    induction l with
    | nil => simp at hm
    | cons p l ih =>
      rw [List.map_cons, List.find?_cons]
      by_cases hp : p.1 = k
      · rw [if_pos hp]
        by_cases hk : k' = k
        · subst hk; simp
        · rw [if_neg hk, List.find?_cons]
          simp only [show ¬ k = k' from fun h => hk h.symm, show ¬ p.1 = k' from fun h => hk (h.symm.trans hp), decide_false]
          by_cases hm2 : k ∈ l.map Prod.fst
          · rw [ih hm2, if_neg hk]
          · congr 2
            rw [List.map_congr_left (g := id), List.map_id]
            intro q hq
            rw [if_neg (fun h : q.1 = k => hm2 (by rw [← h]; exact List.mem_map_of_mem hq))]; rfl
      · rw [if_neg hp, List.find?_cons]
        have hm2 : k ∈ l.map Prod.fst := by
          rcases List.mem_cons.1 hm with h | h
          · exact absurd h.symm hp
          · exact h
        by_cases hk : p.1 = k'
        · subst hk; simp [hp]
        · simp only [hk, decide_false]
          exact ih hm2
  · rw [if_neg hm, List.find?_append]
    by_cases hk : k' = k
    · subst hk
      have : l.find? (fun p => p.1 = k') = none := by
        rw [List.find?_eq_none]
        intro p hp h
        exact hm (by have : p.1 = k' := by simpa using h
                     rw [← this]; exact List.mem_map_of_mem hp)
      rw [this]; simp
    · rw [if_neg hk]
      have : ¬ k = k' := fun h => hk h.symm
      simp [this]
end

section
variable {n : Nat} {fm : Fm} {L : List HP} {α β : Type} [Kv α] [Vv β]
theorem j_mapA {X : Act → World → Prop} {m : Nat} {l : List (α × β)} (h : ∀ bs c, J n fm (MapB m l bs c :: L) X) : J n fm (MapA m l :: L) X := j_ex (fun p => h p.1 p.2)
theorem j_unmapA {X : Act → World → Prop} {m : Nat} {l : List (α × β)} {bs : List Nat} {c : Nat} (h : J n fm (MapA m l :: L) X) : J n fm (MapB m l bs c :: L) X :=
  j_unex (α := List Nat × Nat) (A := fun p => MapB m l p.1 p.2) (bs, c) h
theorem j_mapN {X : Act → World → Prop} {m : Nat} {l : List (α × β)} {bs : List Nat} {c : Nat} (hA : At L (MapB m l bs c)) (h : bs.length = l.length → bs.Pairwise (· < ·) → (l.map Prod.fst).Nodup → J n fm L X) : J n fm L X :=
  fun aa w hr hw => by
    obtain ⟨S, hS⟩ := hw.at hA
    exact h hS.2.2.1 hS.2.2.2.1 hS.2.2.2.2.2 aa w hr hw

end
theorem Up.at {L L' : List HP} {A A' : HP} (h : Up L A A' L') : At L A := by
  induction h with
  | z => exact .z
  | s _ ih => exact .s ih
theorem run_mkMap {P : Program} (t : TypeId) (w : World) : (Instr.makeMap t none).run P w = .ok (.map (some w.heap.size)) (w.alloc (.map #[] 0)) := rfl
theorem run_getMap {P : Program} {w : World} {m : Nat} {es : Array MapEntry} {c : Nat} (hb : w.heap[m]? = some (.map es c)) : (getObj m).run P w = .ok (.map es c) w := by simp [getObj, Sem.run, hb]

section
variable {P : Program} {n : Nat} {fm : Fm} {L : List HP} {ops : Array Oper} {K : Act → World → Prop} {rest : List Oper} {ty : TypeId} {pos : String} {after : Array Edge} {d : Tmp} {α β : Type} [DecidableEq α] [Kv α] [Vv β]

theorem j_makeMap {t : TypeId} (β : Type) [Vv β] (α : Type) [DecidableEq α] [Kv α] (hd : Nat.blt d n = true) (k : ∀ m, J n ((d, .map (some m)) :: fm) (MapA m ([] : List (α × β)) :: L) (runS P ops K rest)) : J n fm L (runS P ops K (⟨some d, .makeMap t none, ty, pos, after, none⟩ :: rest)) := by
  refine j_write rfl (L' := fun v M => ∃ m, v = .map (some m) ∧ M = MapA m ([] : List (α × β)) :: L) (fun a w hr hw => ?_) hd (fun v M ⟨m, hv, hM⟩ => by subst hv hM; exact k m)
  refine ⟨.map (some w.heap.size), w.alloc (.map #[] 0), _, ?_, ⟨_, rfl, rfl⟩, hw.new (A' := MapA w.heap.size ([] : List (α × β))) ⟨([], 0), Nat.le_refl _, heap_alloc_new w _, rfl, List.Pairwise.nil, by simp, List.nodup_nil⟩ (fun b hb => heap_alloc_old w _ hb) ⟨rfl, rfl, rfl⟩⟩
  simp only [execOp, Option.map_none, Sem.run_bind, run_mkMap, Result.andThen_ok, Sem.run_pure]

theorem run_find_map {kt : TypeId} [hkk : Key P kt α] {l : List (α × β)} {bs : List Nat} (h : bs.length = l.length) (w : World) (k : α) : (Instr.findKey kt (kv k) (mapEs l bs)).run P w = .ok (match l.findIdx? (fun p => p.1 = k) with | some i => (l[i]?).map fun p => (i, vv p.2) | none => none) w := by
  rw [hkk.fnd w k (mapEs l bs) (l.map Prod.fst) (mapEs_keys h), idx_of]
  cases hi : l.findIdx? (fun p => p.1 = k) with
  | none => rfl
  | some i =>
    obtain ⟨v, h1, _⟩ := idx_some hi
    have hl := (List.getElem?_eq_some_iff.1 h1).1
    have h2 : i < bs.length := by omega
    simp [mapEs_get h1 (List.getElem?_eq_getElem h2), h1]

theorem run_lookup_map {t kt et : TypeId} {n1 : Nat} {z : Value} {by_ : Nat} [ht : TyC P t (.map kt et) n1] [hz : TyZ P et z by_] [hkk : Key P kt α] {m : Nat} {l : List (α × β)} {w : World} {S : Nat → Prop} (h : MapA m l w S) (k : α) (ok : Bool) :
    (Instr.lookup t (.map (some m)) (kv k) ok).run P w = .ok (if ok then .tuple #[((getM l k).map vv).getD z, .bool (getM l k).isSome] else ((getM l k).map vv).getD z) w := by
  obtain ⟨⟨bs, c⟩, h1, h2, h3, _⟩ := h
  have hz0 := hz.zero
  have hzz : (zeroValue et).run P w = .ok z w := by
    cases hinf : P.info? et with
    | none => simp [hinf] at hz0
    | some inf => simp [hinf] at hz0; simp [zeroValue, typeInfo, hinf, hz0]
  simp only [Instr.lookup, Sem.run_bind, run_underlying ht.und, Result.andThen_ok, run_getMap h2, Sem.run_pure, hkk.chk, run_find_map h3]
  cases hi : l.findIdx? (fun p => p.1 = k) with
  | none =>
    obtain ⟨g1, _⟩ := idx_none hi
    cases ok <;> simp [g1, hzz]
  | some i =>
    obtain ⟨v, g1, g2, _⟩ := idx_some hi
    cases ok <;> simp [g1, g2]

theorem j_lookup {t kt et : TypeId} {n1 : Nat} {z : Value} {by_ : Nat} {x y : Operand} {m : Nat} {l : List (α × β)} {k : α} [ht : TyC P t (.map kt et) n1] [hz : TyZ P et z by_] [hkk : Key P kt α] (hx : ev fm x = some (.map (some m))) (hy : ev fm y = some (kv k)) (hA : At L (MapA m l)) (hd : Nat.blt d n = true)
    (kk : J n ((d, ((getM l k).map vv).getD z) :: fm) L (runS P ops K rest)) : J n fm L (runS P ops K (⟨some d, .lookup t x y false, ty, pos, after, none⟩ :: rest)) := by
  refine j_read (by simp [cls]) (fun a w hr hw => ?_) hd kk
  obtain ⟨S, hS⟩ := hw.at hA
  have hl := run_lookup_map (P := P) (t := t) (kt := kt) (et := et) (z := z) hS k false
  simp only [execOp, hr.ev hx, hr.ev hy, Sem.run_bind, hl, Result.andThen_ok, Sem.run_pure]
  rfl
theorem j_lookupB {t kt et : TypeId} {n1 : Nat} {z : Value} {by_ : Nat} {x y : Operand} {m : Nat} {l : List (α × β)} {bs : List Nat} {c : Nat} {k : α} [ht : TyC P t (.map kt et) n1] [hz : TyZ P et z by_] [hkk : Key P kt α] (hx : ev fm x = some (.map (some m))) (hy : ev fm y = some (kv k)) (hA : At L (MapB m l bs c)) (hd : Nat.blt d n = true)
    (kk : J n ((d, ((getM l k).map vv).getD z) :: fm) L (runS P ops K rest)) : J n fm L (runS P ops K (⟨some d, .lookup t x y false, ty, pos, after, none⟩ :: rest)) := by
  refine j_read (by simp [cls]) (fun a w hr hw => ?_) hd kk
  obtain ⟨S, hS⟩ := hw.at hA
  have hl := run_lookup_map (P := P) (t := t) (kt := kt) (et := et) (z := z) (S := S) (m := m) (l := l) ⟨(bs, c), hS⟩ k false
  simp only [execOp, hr.ev hx, hr.ev hy, Sem.run_bind, hl, Result.andThen_ok, Sem.run_pure]
  rfl
theorem j_lookup2 {t kt et : TypeId} {n1 : Nat} {z : Value} {by_ : Nat} {x y : Operand} {m : Nat} {l : List (α × β)} {k : α} [ht : TyC P t (.map kt et) n1] [hz : TyZ P et z by_] [hkk : Key P kt α] (hx : ev fm x = some (.map (some m))) (hy : ev fm y = some (kv k)) (hA : At L (MapA m l)) (hd : Nat.blt d n = true)
    (kk : J n ((d, .tuple #[((getM l k).map vv).getD z, .bool (getM l k).isSome]) :: fm) L (runS P ops K rest)) : J n fm L (runS P ops K (⟨some d, .lookup t x y true, ty, pos, after, none⟩ :: rest)) := by
  refine j_read (by simp [cls]) (fun a w hr hw => ?_) hd kk
  obtain ⟨S, hS⟩ := hw.at hA
  have hl := run_lookup_map (P := P) (t := t) (kt := kt) (et := et) (z := z) hS k true
  simp only [execOp, hr.ev hx, hr.ev hy, Sem.run_bind, hl, Result.andThen_ok, Sem.run_pure]
  rfl
theorem j_mapEntry {t kt et : TypeId} {n1 : Nat} {by_ : Nat} {x y : Operand} {m : Nat} {l : List (α × β)} {k : α} (z : β) {L' : List Nat → Nat → List HP} [ht : TyC P t (.map kt et) n1] [hz : TyZ P et (vv z) by_] [hkk : Key P kt α] (hx : ev fm x = some (.map (some m))) (hy : ev fm y = some (kv k))
    (hu : ∀ bs c, Up L (MapA m l) (MapB m (addM l k z) bs c) (L' bs c)) (hd : Nat.blt d n = true)
    (kk : ∀ (bs : List Nat) (c j b : Nat) (v : β), bs[j]? = some b → (addM l k z)[j]? = some (k, v) → v = (getM l k).getD z → (l.map Prod.fst).Nodup → J n ((d, .tuple #[vv v, .int .i64 b]) :: fm) (L' bs c) (runS P ops K rest)) :
    J n fm L (runS P ops K (⟨some d, .mapEntry t x y, ty, pos, after, none⟩ :: rest)) := by
  refine j_write rfl (L' := fun u M => ∃ (bs : List Nat) (c j b : Nat) (v : β), (bs[j]? = some b ∧ (addM l k z)[j]? = some (k, v) ∧ v = (getM l k).getD z ∧ (l.map Prod.fst).Nodup) ∧ u = .tuple #[vv v, .int .i64 b] ∧ M = L' bs c) (fun a w hr hw => ?_) hd (fun u M ⟨bs, c, j, b, v, ⟨h1, h2, h3, h4⟩, hv, hM⟩ => by subst hv hM; exact kk bs c j b v h1 h2 h3 h4)
  have hA : At L (MapA m l) := (hu [] 0).at
  obtain ⟨S, ⟨bs, c⟩, h1, h2, h3, h4, h5, h6⟩ := hw.at hA
  dsimp only at h2 h3 h4 h5
  have hlt := lt_of_heap h2
  have hfd := run_find_map (P := P) (kt := kt) h3 w k
  have hz0 := hz.zero
  have hzz : (zeroValue et).run P w = .ok (vv z) w := by
    cases hinf : P.info? et with
    | none => simp [hinf] at hz0
    | some inf => simp [hinf] at hz0; simp [zeroValue, typeInfo, hinf, hz0]
  have hset : ∀ o : Obj, (setObj m o).run P w = .ok () { w with heap := w.heap.setIfInBounds m o } := fun o => by simp [setObj, Sem.run, h2]
  cases hi : l.findIdx? (fun p => p.1 = k) with
  | some i =>
    obtain ⟨v, g1, g2, g3⟩ := idx_some hi
    have hil := (List.getElem?_eq_some_iff.1 g1).1
    have hib : i < bs.length := by omega
    have hes := mapEs_get g1 (List.getElem?_eq_getElem hib)
    have hadd : addM l k z = l := by unfold addM; rw [if_pos g3]
    rw [hi] at hfd
    simp only [g1, Option.map_some] at hfd
    refine ⟨.tuple #[vv v, .int .i64 bs[i]], { w with heap := w.heap.setIfInBounds m (.map (mapEs l bs).toArray c) }, L' bs c, ?_, ⟨bs, c, i, bs[i], v, ⟨List.getElem?_eq_getElem hib, by rw [hadd]; exact g1, by rw [g2]; rfl, h6⟩, rfl, rfl⟩, ?_⟩
    · have hks : ∀ w', (Instr.keyThatStays (kv k) (kv k)).run P w' = .ok (kv k) w' := fun w' => by simp [Instr.keyThatStays, hkk.bits, Sem.run_pure]
      have hmod : (mapEs l bs).toArray.modify i (fun e => { e with key := kv k }) = (mapEs l bs).toArray := by
        apply Array.ext
        · simp
        · intro q q1 q2
          rw [Array.getElem_modify]
          split
          · rename_i hq
            subst hq
            have h9 : (mapEs l bs)[i]'(by simpa using q2) = ⟨kv k, vv v, bs[i]⟩ := (List.getElem?_eq_some_iff.1 hes).2
            simp only [List.getElem_toArray, h9]
          · rfl
      simp only [execOp, hr.ev hx, hr.ev hy, Sem.run_bind, Instr.mapEntry, run_underlying ht.und, Result.andThen_ok, run_getMap h2, hkk.chk, hfd, List.getElem?_toArray, hes, Option.map_some, Option.getD_some, hks, hset, hmod, Sem.run_pure]
      rfl
    · refine hw.up (hu bs c) (fun S' hS' => ⟨⟨.inl ?_, ?_, by rw [hadd]; exact h3, h4, h5, by rw [hadd]; exact h6⟩, fun b hb hnb => ?_⟩) ⟨rfl, rfl, rfl⟩
      · obtain ⟨_, hh, _⟩ := hS'; exact hh
      · rw [hadd]; simp [hlt]
      · obtain ⟨_, hh, _⟩ := hS'
        have : m ≠ b := fun he => hnb (he ▸ hh)
        simp [this]
  | none =>
    obtain ⟨g1, g2⟩ := idx_none hi
    have hadd : addM l k z = l ++ [(k, z)] := by unfold addM; rw [if_neg g2]
    rw [hi] at hfd
    simp only at hfd
    refine ⟨.tuple #[vv z, .int .i64 c], { w with heap := w.heap.setIfInBounds m (.map (mapEs (l ++ [(k, z)]) (bs ++ [c])).toArray (c + 1)) }, L' (bs ++ [c]) (c + 1), ?_, ⟨bs ++ [c], c + 1, l.length, c, z, ⟨by rw [← h3]; simp, by rw [hadd]; simp, by rw [g1]; rfl, h6⟩, rfl, rfl⟩, ?_⟩
    · simp only [execOp, hr.ev hx, hr.ev hy, Sem.run_bind, Instr.mapEntry, run_underlying ht.und, Result.andThen_ok, run_getMap h2, hkk.chk, hfd, hzz, hset, Sem.run_pure, mapEs_snoc h3, List.push_toArray]
      rfl
    · refine hw.up (hu (bs ++ [c]) (c + 1)) (fun S' hS' => ⟨⟨.inl ?_, ?_, ?_, ?_, ?_, ?_⟩, fun b hb hnb => ?_⟩) ⟨rfl, rfl, rfl⟩
      · obtain ⟨_, hh, _⟩ := hS'; exact hh
      · rw [hadd]; simp [hlt]
      · rw [hadd]; simp [h3]
      · rw [List.pairwise_append]; exact ⟨h4, by simp, fun p hp q hq => by rw [List.mem_singleton.1 hq]; exact h5 p hp⟩
      · intro b hb
        rcases List.mem_append.1 hb with h | h
        · have := h5 b h; omega
        · rw [List.mem_singleton.1 h]; omega
      · rw [hadd, List.map_append]
        exact List.nodup_append.2 ⟨h6, by simp, fun p hp q hq he => by
          have : q = k := by simpa using hq
          subst this; subst he; exact g2 hp⟩
      · obtain ⟨_, hh, _⟩ := hS'
        have : m ≠ b := fun he => hnb (he ▸ hh)
        simp [this]

end

section
variable {P : Program} {n : Nat} {fm : Fm} {L : List HP} {ops : Array Oper} {K : Act → World → Prop} {rest : List Oper} {ty : TypeId} {pos : String} {after : Array Edge} {d : Tmp} {α β : Type} [Kv α] [Vv β]
theorem mapEs_find {l : List (α × β)} {bs : List Nat} (h3 : bs.length = l.length) (h4 : bs.Pairwise (· < ·)) {j b : Nat} (hj : bs[j]? = some b) : (mapEs l bs).findIdx? (fun e => (e.born : Int) == (b : Int)) = some j := by
  obtain ⟨hjb, hjv⟩ := List.getElem?_eq_some_iff.1 hj
  have hlen := mapEs_len h3
  have hbo : ∀ (i : Nat) (hi : i < (mapEs l bs).length), ((mapEs l bs)[i]).born = bs[i]'(by omega) := fun i hi => by
    have := congrArg (fun q => q[i]?) (mapEs_born (l := l) h3)
    simp only [List.getElem?_map, List.getElem?_eq_getElem hi, Option.map_some] at this
    rw [List.getElem?_eq_getElem (show i < bs.length by omega)] at this
    exact Option.some.inj this
  rw [List.findIdx?_eq_some_iff_getElem]
  refine ⟨by omega, by rw [hbo j (by omega), hjv]; simp, fun i hi => ?_⟩
  rw [hbo i (by omega)]
  have := List.pairwise_iff_getElem.1 h4 i j (by omega) hjb hi
  simp only [beq_iff_eq]
  omega

theorem j_entryStore {t : TypeId} {x y u : Operand} {m : Nat} {l : List (α × β)} {bs : List Nat} {c j b : Nat} {k : α} {v y' : β} {L' : List HP} (hx : ev fm x = some (.map (some m))) (hs : ev fm y = some (.int .i64 b)) (hv : ev fm u = some (vv y')) (hj : bs[j]? = some b) (hl : l[j]? = some (k, v))
    (hu : Up L (MapB m l bs c) (MapA m (l.set j (k, y'))) L') (kk : J n fm L' (runS P ops K rest)) : J n fm L (runS P ops K (⟨none, .entryStore t x y u, ty, pos, after, none⟩ :: rest)) := by
  refine j_store rfl (fun a w hr hw => ?_) kk
  obtain ⟨S, h1, h2, h3, h4, h5, h6⟩ := hw.at hu.at
  have hlt := lt_of_heap h2
  have hjb := (List.getElem?_eq_some_iff.1 hj).1
  have hjl := (List.getElem?_eq_some_iff.1 hl).1
  have hset : ∀ o : Obj, (setObj m o).run P w = .ok () { w with heap := w.heap.setIfInBounds m o } := fun o => by simp [setObj, Sem.run, h2]
  have hes := mapEs_get hl hj
  have hfi : (mapEs l bs).toArray.findIdx? (fun e => (e.born : Int) == (b : Int)) = some j := by rw [← mapEs_find h3 h4 hj]; simp
  have hmod : (mapEs l bs).toArray.modify j (fun e => { e with val := vv y' }) = (mapEs (l.set j (k, y')) bs).toArray := by
    apply Array.ext
    · simp [mapEs_len h3, mapEs_len (l := l.set j (k, y')) (bs := bs) (by simpa using h3)]
    · intro q q1 q2
      have hql : q < l.length := by have := q1; simp [mapEs_len h3] at this; exact this
      have hqb : q < bs.length := by omega
      rw [Array.getElem_modify]
      by_cases hq : j = q
      · subst hq
        rw [if_pos rfl]
        have e1 : (mapEs l bs)[j]'(by rw [mapEs_len h3]; exact hql) = ⟨kv k, vv v, b⟩ := (List.getElem?_eq_some_iff.1 hes).2
        have e2 : (mapEs (l.set j (k, y')) bs)[j]'(by simpa using q2) = ⟨kv k, vv y', b⟩ := (List.getElem?_eq_some_iff.1 (mapEs_get (l := l.set j (k, y')) (p := (k, y')) (by simp [hql]) hj)).2
        simp only [List.getElem_toArray, e1, e2]
      · rw [if_neg hq]
        have e1 := (List.getElem?_eq_some_iff.1 (mapEs_get (List.getElem?_eq_getElem hql) (List.getElem?_eq_getElem hqb))).2
        have e2 := (List.getElem?_eq_some_iff.1 (mapEs_get (l := l.set j (k, y')) (p := l[q]) (by rw [List.getElem?_set_ne hq]; exact List.getElem?_eq_getElem hql) (List.getElem?_eq_getElem hqb))).2
        simp only [List.getElem_toArray, e1, e2]
  refine ⟨{ w with heap := w.heap.setIfInBounds m (.map (mapEs (l.set j (k, y')) bs).toArray c) }, ?_, ?_⟩
  · simp only [execOp, hr.ev hx, hr.ev hs, hr.ev hv, Sem.run_bind, Instr.entryStore, Result.andThen_ok, run_getMap h2, asInt, asIntOf, Sem.run_pure, hfi, hmod, hset]
  · have hfst : (l.set j (k, y')).map Prod.fst = l.map Prod.fst := by
      apply List.ext_getElem
      · simp
      · intro q q1 q2
        simp only [List.getElem_map, List.getElem_set]
        split
        · rename_i hq; subst hq
          rw [(List.getElem?_eq_some_iff.1 hl).2]
        · rfl
    refine hw.up hu (fun S' hS' => ⟨⟨(bs, c), .inl hS'.1, by simp [hlt], by simpa using h3, h4, h5, by rw [hfst]; exact h6⟩, fun q hq hnq => ?_⟩) ⟨rfl, rfl, rfl⟩
    have : m ≠ q := fun he => hnq (he ▸ hS'.1)
    simp [this]

/-- an iterator that has been to the entries js -/
def IterA (it m : Nat) (bs : List Nat) (c : Nat) (js : List Nat) : HP := fun w S => (S it ∧ w.heap[it]? = some (.mapIter (some m) c (js.map fun j => bs.getD j 0).toArray c)) ∧ ∀ j ∈ js, j < bs.length
instance (it m : Nat) (bs : List Nat) (c : Nat) (js : List Nat) : Loc (IterA it m bs c js) := ⟨fun h k _ => by
  obtain ⟨⟨h1, h2⟩, h3⟩ := h
  obtain ⟨k1, k2⟩ := k it (lt_of_heap h2) h1
  exact ⟨⟨k1, k2.trans h2⟩, h3⟩⟩

theorem j_range {t kt et : TypeId} {n1 : Nat} {x : Operand} {m : Nat} {l : List (α × β)} {bs : List Nat} {c : Nat} [ht : TyC P t (.map kt et) n1] (hx : ev fm x = some (.map (some m))) (hA : At L (MapB m l bs c)) (hd : Nat.blt d n = true)
    (kk : ∀ it, J n ((d, .pointer (some ⟨it, 0, none⟩)) :: fm) (IterA it m bs c [] :: L) (runS P ops K rest)) : J n fm L (runS P ops K (⟨some d, .range t x, ty, pos, after, none⟩ :: rest)) := by
  refine j_write rfl (L' := fun v M => ∃ it, v = .pointer (some ⟨it, 0, none⟩) ∧ M = IterA it m bs c [] :: L) (fun a w hr hw => ?_) hd (fun v M ⟨it, hv, hM⟩ => by subst hv hM; exact kk it)
  obtain ⟨S, h1, h2, _⟩ := hw.at hA
  refine ⟨_, w.alloc (.mapIter (some m) c #[] c), _, ?_, ⟨w.heap.size, rfl, rfl⟩, hw.new (A' := IterA w.heap.size m bs c []) ⟨⟨Nat.le_refl _, heap_alloc_new w _⟩, by simp⟩ (fun b hb => heap_alloc_old w _ hb) ⟨rfl, rfl, rfl⟩⟩
  have hrg := run_range_map (P := P) w t kt et m _ c ht.und h2
  simp only [execOp, hr.ev hx, Sem.run_bind, hrg, Result.andThen_ok, Sem.run_pure]

theorem j_next {x : Operand} {it m : Nat} {l : List (α × β)} {bs : List Nat} {c : Nat} {js : List Nat} {L' : Nat → List HP} (hx : ev fm x = some (.pointer (some ⟨it, 0, none⟩))) (hA : At L (MapB m l bs c)) (hu : ∀ j, Up L (IterA it m bs c js) (IterA it m bs c (js ++ [j])) (L' j)) (hd : Nat.blt d n = true)
    (k0 : (∀ j, j < l.length → j ∈ js) → J n ((d, .tuple #[.bool false]) :: fm) L (runS P ops K rest))
    (k1 : ∀ (j : Nat) (p : α × β), l[j]? = some p → j ∉ js → J n ((d, .tuple #[.bool true, kv p.1, vv p.2]) :: fm) (L' j) (runS P ops K rest)) :
    J n fm L (runS P ops K (⟨some d, .next x false, ty, pos, after, none⟩ :: rest)) := by
  refine j_write rfl (L' := fun v M => (v = .tuple #[.bool false] ∧ M = L ∧ ∀ j, j < l.length → j ∈ js) ∨ ∃ (j : Nat) (p : α × β), l[j]? = some p ∧ j ∉ js ∧ v = .tuple #[.bool true, kv p.1, vv p.2] ∧ M = L' j) (fun a w hr hw => ?_) hd (fun v M h => by
    rcases h with ⟨hv, hM, h⟩ | ⟨j, p, h1, h2, hv, hM⟩
    · subst hv hM; exact k0 h
    · subst hv hM; exact k1 j p h1 h2)
  obtain ⟨S, h1, h2, h3, h4, h5, h6⟩ := hw.at hA
  obtain ⟨S2, ⟨g1, g2⟩, g3⟩ := hw.at (hu 0).at
  have hbo := mapEs_born (l := l) h3
  have hold : ∀ e ∈ (mapEs l bs).toArray.toList, e.born < c := fun e he => h5 _ (by rw [← hbo]; exact List.mem_map_of_mem (by simpa using he))
  have hin : ∀ (i : Nat) (hi : i < bs.length), bs[i] ∈ (js.map fun j => bs.getD j 0) → i ∈ js := fun i hi hc => by
    obtain ⟨j, hj, he⟩ := List.mem_map.1 hc
    have hjb := g3 j hj
    rw [List.getD_eq_getElem?_getD, List.getElem?_eq_getElem hjb, Option.getD_some] at he
    rcases Nat.lt_trichotomy i j with h | h | h
    · have := List.pairwise_iff_getElem.1 h4 i j hi hjb h; omega
    · subst h; exact hj
    · have := List.pairwise_iff_getElem.1 h4 j i hjb hi h; omega
  have hget : ∀ (i : Nat) (hi : i < l.length), ∃ hb : i < bs.length, (mapEs l bs)[i]? = some ⟨kv l[i].1, vv l[i].2, bs[i]⟩ := fun i hi => ⟨by omega, mapEs_get (List.getElem?_eq_getElem hi) (List.getElem?_eq_getElem (by omega))⟩
  rcases run_next_at (P := P) w ty it m c c _ _ c g2 h2 hold (Nat.le_refl _) with ⟨e0, hrun⟩ | ⟨e, he, w1, hw1, hrun⟩
  · refine ⟨.tuple #[.bool false], w, L, ?_, .inl ⟨rfl, rfl, fun j hj => ?_⟩, hw⟩
    · simp only [execOp, hr.ev hx, Sem.run_bind, hrun, Result.andThen_ok, Sem.run_pure]
    · obtain ⟨hjb, hg⟩ := hget j hj
      refine Classical.not_not.1 fun hnj => ?_
      have : (⟨kv l[j].1, vv l[j].2, bs[j]⟩ : MapEntry) ∈ leftOf (mapEs l bs).toArray (js.map fun j => bs.getD j 0).toArray := by
        unfold leftOf
        rw [Array.mem_filter]
        refine ⟨by simpa using List.mem_of_getElem? hg, ?_⟩
        simp only [Bool.not_eq_true', List.contains_toArray]
        rw [Bool.eq_false_iff]
        intro hc
        rw [List.contains_iff_mem] at hc
        exact hnj (hin j hjb hc)
      have h0 := Array.size_pos_of_mem this
      omega
  · have hmem : e ∈ mapEs l bs ∧ e.born ∉ (js.map fun j => bs.getD j 0) := by
      have : e ∈ leftOf (mapEs l bs).toArray (js.map fun j => bs.getD j 0).toArray := Array.mem_toList_iff.1 he
      unfold leftOf at this
      rw [Array.mem_filter] at this
      refine ⟨by simpa using this.1, fun hc => ?_⟩
      have h9 := this.2
      simp only [Bool.not_eq_true', List.contains_toArray] at h9
      rw [Bool.eq_false_iff] at h9
      exact h9 (List.contains_iff_mem.2 hc)
    obtain ⟨j, hj⟩ := List.getElem?_of_mem hmem.1
    have hjl : j < l.length := by have := (List.getElem?_eq_some_iff.1 hj).1; rw [mapEs_len h3] at this; exact this
    obtain ⟨hjb, hg⟩ := hget j hjl
    rw [hg] at hj
    have he' := Option.some.inj hj
    subst he'
    have hnj : j ∉ js := fun hc => hmem.2 (List.mem_map.2 ⟨j, hc, by rw [List.getD_eq_getElem?_getD, List.getElem?_eq_getElem hjb]; rfl⟩)
    refine ⟨.tuple #[.bool true, kv l[j].1, vv l[j].2], ChangeMaps.setBlock w1 it (.mapIter (some m) c ((js.map fun j => bs.getD j 0).toArray.push bs[j]) c), L' j, ?_, .inr ⟨j, l[j], List.getElem?_eq_getElem hjl, hnj, rfl, rfl⟩, ?_⟩
    · simp only [execOp, hr.ev hx, Sem.run_bind, hrun, Result.andThen_ok, Sem.run_pure]
    · have hw1' : Sat L w1 := by
        rcases hw1 with h | h
        · rw [h]; exact hw
        · rw [h]; exact hw.drew
      have hh1 : w1.heap = w.heap := by rcases hw1 with h | h <;> rw [h] <;> rfl
      have hlt : it < w1.heap.size := by rw [hh1]; exact lt_of_heap g2
      refine hw1'.up (hu j) (fun S' hS' => ⟨⟨⟨.inl hS'.1.1, ?_⟩, fun q hq => ?_⟩, fun q hq hnq => ?_⟩) ⟨rfl, rfl, rfl⟩
      · have : (js.map fun j => bs.getD j 0).toArray.push bs[j] = ((js ++ [j]).map fun j => bs.getD j 0).toArray := by
          rw [List.push_toArray, List.map_append]
          simp [List.getD_eq_getElem?_getD, hjb]
        show (w1.heap.setIfInBounds it _)[it]? = _
        rw [← this]
        simp [hlt]
      · rcases List.mem_append.1 hq with h | h
        · exact g3 q h
        · rw [List.mem_singleton.1 h]; exact hjb
      · have : it ≠ q := fun he => hnq (he ▸ hS'.1.1)
        show (w1.heap.setIfInBounds it _)[q]? = _
        simp [this]

theorem j_entry {x : Operand} {it m : Nat} {l : List (α × β)} {bs : List Nat} {c j : Nat} {js : List Nat} {p : α × β} (hx : ev fm x = some (.pointer (some ⟨it, 0, none⟩))) (hA : At L (MapB m l bs c)) (hI : At L (IterA it m bs c (js ++ [j]))) (hp : l[j]? = some p) (hd : Nat.blt d n = true)
    (kk : J n ((d, .tuple #[kv p.1, vv p.2]) :: fm) L (runS P ops K rest)) : J n fm L (runS P ops K (⟨some d, .entry x, ty, pos, after, none⟩ :: rest)) := by
  refine j_write rfl (L' := fun v M => v = .tuple #[kv p.1, vv p.2] ∧ M = L) (fun a w hr hw => ?_) hd (fun v M ⟨hv, hM⟩ => by subst hv hM; exact kk)
  obtain ⟨S, h1, h2, h3, h4, h5, h6⟩ := hw.at hA
  obtain ⟨S2, ⟨g1, g2⟩, g3⟩ := hw.at hI
  have hjb := g3 j (by simp)
  have hg := mapEs_get hp (List.getElem?_eq_getElem hjb)
  have e1 : ((js ++ [j]).map fun j => bs.getD j 0).toArray = (js.map fun j => bs.getD j 0).toArray.push bs[j] := by
    rw [List.push_toArray, List.map_append]
    simp [List.getD_eq_getElem?_getD, hjb]
  rw [e1] at g2
  have hrun := run_entry_at (P := P) w it m c _ _ c ⟨kv p.1, vv p.2, bs[j]⟩ g2 h2 (by simpa using List.mem_of_getElem? hg) (by
    rw [List.toList_toArray, mapEs_born h3]
    exact h4.imp (fun h => Nat.ne_of_lt h))
  exact ⟨_, w, L, by simp only [execOp, hr.ev hx, Sem.run_bind, hrun, Result.andThen_ok, Sem.run_pure], ⟨rfl, rfl⟩, hw⟩

end

end Go.Proofs.Ytjneocpbpnbopaa
