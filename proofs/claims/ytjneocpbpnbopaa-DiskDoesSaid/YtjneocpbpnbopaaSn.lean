/- Maps: set, deleted from, counted; ranges over strings; slices handed through. -/
import Derived.Test.YtjneocpbpnbopaaSm
import Derived.Laws.RangeAny
import Derived.Lib.OthersKept
set_option linter.unusedVariables false
set_option linter.unusedSimpArgs false
namespace Go.Proofs.Ytjneocpbpnbopaa
open Go
open Kv Vv

section
variable {α β : Type} [DecidableEq α]
/-- a key, taken out -/
def delM (l : List (α × β)) (k : α) : List (α × β) := l.filter (fun p => decide (p.1 ≠ k))
theorem delM_idx {l : List (α × β)} (hn : (l.map Prod.fst).Nodup) {k : α} {i : Nat} (h : l.findIdx? (fun p => p.1 = k) = some i) : delM l k = l.eraseIdx i := by
  induction l generalizing i with
  | nil => simp at h
  | cons p l ih =>
    rw [List.map_cons, List.nodup_cons] at hn
    rw [List.findIdx?_cons] at h
    by_cases hp : p.1 = k
    · simp only [hp, decide_true, if_true, Option.some.injEq] at h
      subst h
      unfold delM
      rw [List.filter_cons, if_neg (by simp [hp]), List.eraseIdx_zero, List.tail_cons, List.filter_eq_self]
      intro q hq
      have : q.1 ≠ k := fun e => hn.1 (by rw [hp, ← e]; exact List.mem_map_of_mem hq)
      simp [this]
    · simp only [hp, decide_false, Bool.false_eq_true, if_false] at h
      cases hi : l.findIdx? (fun p => p.1 = k) with
      | none => rw [hi] at h; simp at h
      | some j =>
        rw [hi] at h
        simp at h
        subst h
        have := ih hn.2 hi
        unfold delM at this ⊢
        rw [List.filter_cons, if_pos (by simp [hp]), List.eraseIdx_cons_succ, this]
theorem delM_none {l : List (α × β)} {k : α} (h : l.findIdx? (fun p => p.1 = k) = none) : delM l k = l := by
  obtain ⟨_, h2⟩ := idx_none h
  unfold delM
  rw [List.filter_eq_self]
  intro q hq
  have : q.1 ≠ k := fun e => h2 (by rw [← e]; exact List.mem_map_of_mem hq)
  simp [this]
theorem getM_delM {l : List (α × β)} {k k' : α} : getM (delM l k) k' = if k' = k then none else getM l k' := by
  unfold delM getM
  by_cases hk : k' = k
  · subst hk
    rw [if_pos rfl]
    have : (l.filter (fun p => decide (p.1 ≠ k'))).find? (fun p => p.1 = k') = none := by
      rw [List.find?_eq_none]
      intro p hp h
      have h1 : p.1 = k' := by simpa using h
      have h2 := (List.mem_filter.1 hp).2
      simp [h1] at h2
    rw [this]; rfl
  · rw [if_neg hk]
    congr 1
    induction l with
    | nil => rfl
    | cons p l ih =>
      rw [List.filter_cons]
      by_cases hp : p.1 = k
      · rw [if_neg (by simp [hp]), ih, List.find?_cons]
        have : ¬ p.1 = k' := fun e => hk (by rw [← e, hp])
        simp [this]
      · rw [if_pos (by simp [hp]), List.find?_cons, List.find?_cons, ih]
theorem delM_nodup {l : List (α × β)} (hn : (l.map Prod.fst).Nodup) (k : α) : ((delM l k).map Prod.fst).Nodup := by
  unfold delM
  exact hn.sublist ((List.filter_sublist).map _)
theorem putM_nodup {l : List (α × β)} (hn : (l.map Prod.fst).Nodup) (k : α) (y : β) : ((putM l k y).map Prod.fst).Nodup := by
  unfold putM
  by_cases hm : k ∈ l.map Prod.fst
  · rw [if_pos hm, List.map_map]
    have : l.map (Prod.fst ∘ fun p => if p.1 = k then (k, y) else p) = l.map Prod.fst := List.map_congr_left (fun p hp => by
      show (if p.1 = k then (k, y) else p).1 = p.1
      split
      · rename_i h; exact h.symm
      · rfl)
    rw [this]; exact hn
  · rw [if_neg hm, List.map_append]
    exact List.nodup_append.2 ⟨hn, by simp, fun p hp q hq he => by
      have : q = k := by simpa using hq
      subst this; subst he; exact hm hp⟩
end

section
variable {P : Program} {n : Nat} {fm : Fm} {L : List HP} {ops : Array Oper} {K : Act → World → Prop} {rest : List Oper} {ty : TypeId} {pos : String} {after : Array Edge} {d : Tmp} {α β : Type} [DecidableEq α] [Kv α] [Vv β]

theorem j_lookupN {t kt et : TypeId} {n1 : Nat} {z : Value} {by_ : Nat} {x y : Operand} {m : Nat} {l : List (α × β)} {k : α} [ht : TyC P t (.map kt et) n1] [hz : TyZ P et z by_] [hkk : Key P kt α] (hx : ev fm x = some (.map (some m))) (hy : ev fm y = some (kv k)) (hA : At L (MapA m l)) (hd : Nat.blt d n = true)
    (k0 : getM l k = none → J n ((d, .tuple #[z, .bool false]) :: fm) L (runS P ops K rest)) (k1 : ∀ v, getM l k = some v → J n ((d, .tuple #[vv v, .bool true]) :: fm) L (runS P ops K rest)) : J n fm L (runS P ops K (⟨some d, .lookup t x y true, ty, pos, after, none⟩ :: rest)) := by
  refine j_lookup2 (α := α) (β := β) hx hy hA hd ?_
  cases h : getM l k with
  | none => exact k0 h
  | some v => exact k1 v h

theorem j_mapUpdate {t kt et : TypeId} {n1 : Nat} {x y u : Operand} {m : Nat} {l : List (α × β)} {k : α} {v : β} {L' : List HP} [ht : TyC P t (.map kt et) n1] [hkk : Key P kt α] (hx : ev fm x = some (.map (some m))) (hy : ev fm y = some (kv k)) (hv : ev fm u = some (vv v))
    (hu : Up L (MapA m l) (MapA m (putM l k v)) L') (kk : J n fm L' (runS P ops K rest)) : J n fm L (runS P ops K (⟨none, .mapUpdate t x y u, ty, pos, after, none⟩ :: rest)) := by
  refine j_store rfl (fun a w hr hw => ?_) kk
  obtain ⟨S, ⟨bs, c⟩, h1, h2, h3, h4, h5, h6⟩ := hw.at hu.at
  dsimp only at h2 h3 h4 h5
  have hlt := lt_of_heap h2
  have hfd := run_find_map (P := P) (kt := kt) h3 w k
  have hset : ∀ o : Obj, (setObj m o).run P w = .ok () { w with heap := w.heap.setIfInBounds m o } := fun o => by simp [setObj, Sem.run, h2]
  have hst : ∀ (w2 : World) (hh : w2.heap = w.heap) (c2 : Nat) (bs2 : List Nat), True := fun _ _ _ _ => trivial
  cases hi : l.findIdx? (fun p => p.1 = k) with
  | some i =>
    obtain ⟨v0, g1, g2, g3⟩ := idx_some hi
    have hil := (List.getElem?_eq_some_iff.1 g1).1
    have hib : i < bs.length := by omega
    have hes := mapEs_get g1 (List.getElem?_eq_getElem hib)
    have hput : l.set i (k, v) = putM l k v := by
      have ha : addM l k v0 = l := by unfold addM; rw [if_pos g3]
      have := set_putM h6 (z := v0) (y := v) (j := i) (k := k) (v := v0) (by rw [ha]; exact g1)
      rwa [ha] at this
    rw [hi] at hfd
    simp only [g1, Option.map_some] at hfd
    have hks : ∀ w', (Instr.keyThatStays (kv k) (kv k)).run P w' = .ok (kv k) w' := fun w' => by simp [Instr.keyThatStays, hkk.bits, Sem.run_pure]
    have hmod : (mapEs l bs).toArray.modify i (fun e => { e with key := kv k, val := vv v }) = (mapEs (l.set i (k, v)) bs).toArray := by
      apply Array.ext
      · simp [mapEs_len h3, mapEs_len (l := l.set i (k, v)) (bs := bs) (by simpa using h3)]
      · intro q q1 q2
        have hql : q < l.length := by have := q1; simp [mapEs_len h3] at this; exact this
        have hqb : q < bs.length := by omega
        rw [Array.getElem_modify]
        by_cases hq : i = q
        · subst hq
          rw [if_pos rfl]
          have e1 : (mapEs l bs)[i]'(by rw [mapEs_len h3]; exact hql) = ⟨kv k, vv v0, bs[i]⟩ := (List.getElem?_eq_some_iff.1 hes).2
          have e2 : (mapEs (l.set i (k, v)) bs)[i]'(by simpa using q2) = ⟨kv k, vv v, bs[i]⟩ := (List.getElem?_eq_some_iff.1 (mapEs_get (l := l.set i (k, v)) (p := (k, v)) (by simp [hql]) (List.getElem?_eq_getElem hib))).2
          simp only [List.getElem_toArray, e1, e2]
        · rw [if_neg hq]
          have e1 := (List.getElem?_eq_some_iff.1 (mapEs_get (List.getElem?_eq_getElem hql) (List.getElem?_eq_getElem hqb))).2
          have e2 := (List.getElem?_eq_some_iff.1 (mapEs_get (l := l.set i (k, v)) (p := l[q]) (by rw [List.getElem?_set_ne hq]; exact List.getElem?_eq_getElem hql) (List.getElem?_eq_getElem hqb))).2
          simp only [List.getElem_toArray, e1, e2]
    refine ⟨{ w with heap := w.heap.setIfInBounds m (.map (mapEs (l.set i (k, v)) bs).toArray c) }, ?_, ?_⟩
    · simp only [execOp, hr.ev hx, hr.ev hy, hr.ev hv, Sem.run_bind, Instr.mapUpdate, run_underlying ht.und, Result.andThen_ok, run_getMap h2, hkk.chk, hfd, List.getElem?_toArray, hes, Option.map_some, Option.getD_some, hks, hset, hmod, Sem.run_pure]
    · have hn2 := putM_nodup h6 k v
      rw [← hput] at hn2 hu
      refine hw.up hu (fun S' hS' => ⟨⟨(bs, c), .inl ?_, by simp [hlt], by simpa using h3, h4, h5, hn2⟩, fun q hq hnq => ?_⟩) ⟨rfl, rfl, rfl⟩
      · obtain ⟨_, hh, _⟩ := hS'; exact hh
      · obtain ⟨_, hh, _⟩ := hS'
        have : m ≠ q := fun he => hnq (he ▸ hh)
        simp [this]
  | none =>
    obtain ⟨g1, g2⟩ := idx_none hi
    have hput : putM l k v = l ++ [(k, v)] := by unfold putM; rw [if_neg g2]
    rw [hi] at hfd
    simp only at hfd
    refine ⟨{ w with heap := w.heap.setIfInBounds m (.map (mapEs (l ++ [(k, v)]) (bs ++ [c])).toArray (c + 1)) }, ?_, ?_⟩
    · simp only [execOp, hr.ev hx, hr.ev hy, hr.ev hv, Sem.run_bind, Instr.mapUpdate, run_underlying ht.und, Result.andThen_ok, run_getMap h2, hkk.chk, hfd, hset, Sem.run_pure, mapEs_snoc h3, List.push_toArray]
    · have hn2 := putM_nodup h6 k v
      rw [hput] at hn2 hu
      refine hw.up hu (fun S' hS' => ⟨⟨(bs ++ [c], c + 1), .inl ?_, by simp [hlt], by simp [h3], ?_, ?_, hn2⟩, fun b hb hnb => ?_⟩) ⟨rfl, rfl, rfl⟩
      · obtain ⟨_, hh, _⟩ := hS'; exact hh
      · rw [List.pairwise_append]; exact ⟨h4, by simp, fun p hp q hq => by rw [List.mem_singleton.1 hq]; exact h5 p hp⟩
      · intro b hb
        rcases List.mem_append.1 hb with h | h
        · have := h5 b h; omega
        · rw [List.mem_singleton.1 h]; exact Nat.lt_succ_self _
      · obtain ⟨_, hh, _⟩ := hS'
        have : m ≠ b := fun he => hnb (he ▸ hh)
        simp [this]
end

section
variable {α β : Type} [Kv α] [Vv β]
theorem mapEs_erase : ∀ (l : List (α × β)) (bs : List Nat) (i : Nat), bs.length = l.length → (mapEs l bs).eraseIdx i = mapEs (l.eraseIdx i) (bs.eraseIdx i)
  | [], [], i, _ => by simp [mapEs]
  | [], _ :: _, _, h => by simp at h
  | _ :: _, [], _, h => by simp at h
  | p :: l, b :: bs, 0, _ => rfl
  | p :: l, b :: bs, i + 1, h => by
    rw [mapEs_cons, List.eraseIdx_cons_succ, List.eraseIdx_cons_succ, List.eraseIdx_cons_succ, mapEs_cons, mapEs_erase l bs i (by simpa using h)]

end

section
variable {P : Program} {n : Nat} {fm : Fm} {L : List HP} {ops : Array Oper} {K : Act → World → Prop} {rest : List Oper} {ty : TypeId} {pos : String} {after : Array Edge} {d : Tmp} {α β : Type} [Kv α] [Vv β]
theorem j_lenMap {t kt et : TypeId} {n1 : Nat} {x : Operand} {m : Nat} {l : List (α × β)} [ht : TyC P t (.map kt et) n1] (hx : ev fm x = some (.map (some m))) (hA : At L (MapA m l)) (hd : Nat.blt d n = true)
    (kk : J n ((d, .int .i64 (l.length : Nat)) :: fm) L (runS P ops K rest)) : J n fm L (runS P ops K (⟨some d, .call ⟨.builtin .len, #[x], #[t]⟩, ty, pos, after, none⟩ :: rest)) := by
  refine j_read (by simp [cls]) (fun a w hr hw => ?_) hd kk
  obtain ⟨S, ⟨bs, c⟩, h1, h2, h3, _⟩ := hw.at hA
  simp [execOp, resolve, invoke, builtin, hr.ev hx, Builtin.len_, run_underlying ht.und, goInt, run_getMap h2, mapEs_len h3]

end

section
variable {P : Program} {n : Nat} {fm : Fm} {L : List HP} {ops : Array Oper} {K : Act → World → Prop} {rest : List Oper} {ty : TypeId} {pos : String} {after : Array Edge} {d : Tmp} {α β : Type} [DecidableEq α] [Kv α] [Vv β]
theorem j_delete {t kt et : TypeId} {n1 : Nat} {t2 : TypeId} {x y : Operand} {m : Nat} {l : List (α × β)} {k : α} {L' : List HP} [ht : TyC P t (.map kt et) n1] [hkk : Key P kt α] (hx : ev fm x = some (.map (some m))) (hy : ev fm y = some (kv k))
    (hu : Up L (MapA m l) (MapA m (delM l k)) L') (kk : J n fm L' (runS P ops K rest)) : J n fm L (runS P ops K (⟨none, .call ⟨.builtin .delete, #[x, y], #[t, t2]⟩, ty, pos, after, none⟩ :: rest)) := by
  refine j_writeN rfl (fun a w hr hw => ?_) kk
  obtain ⟨S, ⟨bs, c⟩, h1, h2, h3, h4, h5, h6⟩ := hw.at hu.at
  dsimp only at h2 h3 h4 h5
  have hlt := lt_of_heap h2
  have hfd := run_find_map (P := P) (kt := kt) h3 w k
  have hset : ∀ o : Obj, (setObj m o).run P w = .ok () { w with heap := w.heap.setIfInBounds m o } := fun o => by simp [setObj, Sem.run, h2]
  have hn2 := delM_nodup h6 k
  cases hi : l.findIdx? (fun p => p.1 = k) with
  | some i =>
    obtain ⟨v0, g1, g2, g3⟩ := idx_some hi
    have hil := (List.getElem?_eq_some_iff.1 g1).1
    have hdel := delM_idx h6 hi
    rw [hi] at hfd
    simp only [g1, Option.map_some] at hfd
    have her : (mapEs l bs).toArray.eraseIdxIfInBounds i = (mapEs (l.eraseIdx i) (bs.eraseIdx i)).toArray := by
      rw [← mapEs_erase l bs i h3]
      simp [Array.eraseIdxIfInBounds, mapEs_len h3, hil]
    refine ⟨.tuple #[], { w with heap := w.heap.setIfInBounds m (.map (mapEs (l.eraseIdx i) (bs.eraseIdx i)).toArray c) }, ?_, ?_⟩
    · simp [execOp, resolve, invoke, builtin, Builtin.delete_, hr.ev hx, hr.ev hy, Sem.run_bind, run_underlying ht.und, run_getMap h2, hkk.chk, hfd, hset, her, Sem.run_pure]
      rw [mapEs_erase l bs i h3]
    · rw [hdel] at hu hn2
      refine hw.up hu (fun S' hS' => ⟨⟨(bs.eraseIdx i, c), .inl ?_, by simp [hlt], by simp [List.length_eraseIdx, h3], h4.sublist (List.eraseIdx_sublist _ _), fun b hb => h5 b (List.mem_of_mem_eraseIdx hb), hn2⟩, fun q hq hnq => ?_⟩) ⟨rfl, rfl, rfl⟩
      · obtain ⟨_, hh, _⟩ := hS'; exact hh
      · obtain ⟨_, hh, _⟩ := hS'
        have : m ≠ q := fun he => hnq (he ▸ hh)
        simp [this]
  | none =>
    have hdel := delM_none hi
    rw [hi] at hfd
    simp only at hfd
    refine ⟨.tuple #[], { w with heap := w.heap.setIfInBounds m (.map (mapEs l bs).toArray c) }, ?_, ?_⟩
    · simp [execOp, resolve, invoke, builtin, Builtin.delete_, hr.ev hx, hr.ev hy, Sem.run_bind, run_underlying ht.und, run_getMap h2, hkk.chk, hfd, hset, Sem.run_pure]
    · rw [hdel] at hu
      refine hw.up hu (fun S' hS' => ⟨⟨(bs, c), .inl ?_, by simp [hlt], h3, h4, h5, h6⟩, fun q hq hnq => ?_⟩) ⟨rfl, rfl, rfl⟩
      · obtain ⟨_, hh, _⟩ := hS'; exact hh
      · obtain ⟨_, hh, _⟩ := hS'
        have : m ≠ q := fun he => hnq (he ▸ hh)
        simp [this]
end

/-! ### ranges over strings -/
def IterS (it : Nat) (s : ByteArray) (p : Nat) : HP := pts it (.stringIter s p)
instance (it : Nat) (s : ByteArray) (p : Nat) : Loc (IterS it s p) := inferInstanceAs (Loc (pts _ _))
section
variable {P : Program} {n : Nat} {fm : Fm} {L : List HP} {ops : Array Oper} {K : Act → World → Prop} {rest : List Oper} {ty : TypeId} {pos : String} {after : Array Edge} {d : Tmp}
theorem j_rangeS {t : TypeId} {n1 : Nat} {x : Operand} {s : ByteArray} [ht : TyC P t .string n1] (hx : ev fm x = some (.string s)) (hd : Nat.blt d n = true)
    (kk : ∀ it, J n ((d, .pointer (some ⟨it, 0, none⟩)) :: fm) (IterS it s 0 :: L) (runS P ops K rest)) : J n fm L (runS P ops K (⟨some d, .range t x, ty, pos, after, none⟩ :: rest)) := by
  refine j_write rfl (L' := fun v M => ∃ it, v = .pointer (some ⟨it, 0, none⟩) ∧ M = IterS it s 0 :: L) (fun a w hr hw => ?_) hd (fun v M ⟨it, hv, hM⟩ => by subst hv hM; exact kk it)
  refine ⟨.pointer (some ⟨w.heap.size, 0, none⟩), w.alloc (.stringIter s 0), _, ?_, ⟨w.heap.size, rfl, rfl⟩, hw.new (A' := IterS w.heap.size s 0) ⟨Nat.le_refl _, heap_alloc_new w _⟩ (fun b hb => heap_alloc_old w _ hb) ⟨rfl, rfl, rfl⟩⟩
  have hrg := run_range_string (P := P) w t s ht.und
  simp only [execOp, hr.ev hx, Sem.run_bind, hrg, Result.andThen_ok, Sem.run_pure]
  rfl
theorem j_nextS {x : Operand} {it p : Nat} {s : ByteArray} {L' : List HP} (hx : ev fm x = some (.pointer (some ⟨it, 0, none⟩))) (hu : Up L (IterS it s p) (IterS it s (p + (Utf8.decode s p).2)) L') (hd : Nat.blt d n = true)
    (k0 : ¬ p < s.size → J n ((d, .tuple #[.bool false]) :: fm) L (runS P ops K rest))
    (k1 : p < s.size → J n ((d, .tuple #[.bool true, .int .i64 p, .int .i32 (Utf8.decode s p).1]) :: fm) L' (runS P ops K rest)) :
    J n fm L (runS P ops K (⟨some d, .next x true, ty, pos, after, none⟩ :: rest)) := by
  by_cases hp : p < s.size
  · refine j_write rfl (L' := fun v M => v = .tuple #[.bool true, .int .i64 p, .int .i32 (Utf8.decode s p).1] ∧ M = L') (fun a w hr hw => ?_) hd (fun v M ⟨hv, hM⟩ => by subst hv hM; exact k1 hp)
    obtain ⟨S, g1, g2⟩ := hw.at hu.at
    have hrun := Go.Lib.run_next_any_at (P := P) w it s p ty g2 hp
    refine ⟨_, { w with heap := w.heap.setIfInBounds it (.stringIter s (p + (Utf8.decode s p).2)) }, L', ?_, ⟨rfl, rfl⟩, ?_⟩
    · simp only [execOp, hr.ev hx, Sem.run_bind, hrun, Result.andThen_ok, Sem.run_pure]
      rfl
    · have hlt := lt_of_heap g2
      refine hw.up hu (fun S' hS' => ⟨⟨.inl hS'.1, by simp [hlt]⟩, fun q hq hnq => ?_⟩) ⟨rfl, rfl, rfl⟩
      have : it ≠ q := fun he => hnq (he ▸ hS'.1)
      simp [this]
  · refine j_write rfl (L' := fun v M => v = .tuple #[.bool false] ∧ M = L) (fun a w hr hw => ?_) hd (fun v M ⟨hv, hM⟩ => by subst hv hM; exact k0 hp)
    obtain ⟨S, g1, g2⟩ := hw.at hu.at
    have hrun := Go.Lib.run_next_end_at (P := P) w it s p ty g2 hp
    refine ⟨_, w, L, ?_, ⟨rfl, rfl⟩, hw⟩
    simp only [execOp, hr.ev hx, Sem.run_bind, hrun, Result.andThen_ok, Sem.run_pure]
end

end Go.Proofs.Ytjneocpbpnbopaa
