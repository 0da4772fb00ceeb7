/-
  Slices: one that owns its array, and how one is read.
-/
import Derived.Test.YtnmfpgfgjjmfhaaSy
set_option linter.unusedVariables false
set_option linter.unusedSimpArgs false
namespace Go.Proofs.Ytnmfpgfgjjmfhaa
open Go

/-- how a slice is read: element i's cells -/
def SlR (w : World) (sz : Nat) (a : Option Addr) (xs : List (List Value)) : Prop :=
  (∀ x ∈ xs, x.length = sz) ∧ (xs = [] ∨ ∃ b o, a = some ⟨b, o, none⟩ ∧ ∀ i x, xs[i]? = some x → ∀ j v, x[j]? = some v → w.cell? ⟨b, o + i * sz + j, none⟩ = some v)

/-- a slice from an array's head that owns the array -/
def SlO (T : TypeId) (sz : Nat) (a : Option Addr) (cap : Nat) (xs : List (List Value)) : HP := fun w S =>
  (∀ x ∈ xs, x.length = sz) ∧ ((cap = 0 ∧ xs = []) ∨
    ∃ b junk, a = some ⟨b, 0, none⟩ ∧ S b ∧ w.heap[b]? = some (.cells (xs.flatten ++ junk).toArray T (0, 0)) ∧ cap ≤ maxLen ∧ cap * sz ≤ xs.length * sz + junk.length ∧ xs.length ≤ cap)
instance (T : TypeId) (sz : Nat) (a : Option Addr) (cap : Nat) (xs : List (List Value)) : Loc (SlO T sz a cap xs) := ⟨fun h k _ => by
  obtain ⟨h0, h⟩ := h
  refine ⟨h0, ?_⟩
  rcases h with h | ⟨b, junk, ha, hS, hh, h1⟩
  · exact .inl h
  · obtain ⟨k1, k2⟩ := k b (lt_of_heap hh) hS
    exact .inr ⟨b, junk, ha, k1, k2.trans hh, h1⟩⟩

theorem flatten_get {sz : Nat} : ∀ (xs : List (List Value)) (i j : Nat) (x : List Value) (v : Value), (∀ x ∈ xs, x.length = sz) → xs[i]? = some x → x[j]? = some v → xs.flatten[i * sz + j]? = some v
  | [], i, j, x, v, _, hi, _ => by simp at hi
  | y :: ys, 0, j, x, v, hl, hi, hj => by
    simp at hi; subst hi
    have hlt := (List.getElem?_eq_some_iff.1 hj).1
    simp only [List.flatten_cons, Nat.zero_mul, Nat.zero_add]
    rw [List.getElem?_append_left hlt]; exact hj
  | y :: ys, i + 1, j, x, v, hl, hi, hj => by
    have hy := hl y (List.mem_cons_self ..)
    have := flatten_get ys i j x v (fun z hz => hl z (List.mem_cons_of_mem _ hz)) (by simpa using hi) hj
    simp only [List.flatten_cons]
    rw [List.getElem?_append_right (by rw [hy, Nat.succ_mul]; omega), hy, show (i + 1) * sz + j - sz = i * sz + j from by rw [Nat.succ_mul]; omega]
    exact this

theorem flatten_length {sz : Nat} : ∀ (xs : List (List Value)), (∀ x ∈ xs, x.length = sz) → xs.flatten.length = xs.length * sz
  | [], _ => by simp
  | y :: ys, h => by
    have hy := h y (List.mem_cons_self ..)
    have := flatten_length ys (fun z hz => h z (List.mem_cons_of_mem _ hz))
    simp only [List.flatten_cons, List.length_append, List.length_cons, hy, this, Nat.succ_mul]; omega

theorem SlO.read {T sz : Nat} {a : Option Addr} {cap : Nat} {xs : List (List Value)} {w : World} {S : Nat → Prop} (h : SlO T sz a cap xs w S) : SlR w sz a xs := by
  refine ⟨h.1, ?_⟩
  rcases h.2 with ⟨_, rfl⟩ | ⟨b, junk, rfl, _, hh, _⟩
  · exact .inl rfl
  · refine .inr ⟨b, 0, rfl, fun i x hi j v hj => ?_⟩
    have := flatten_get xs i j x v h.1 hi hj
    have hlt := (List.getElem?_eq_some_iff.1 this).1
    simp only [World.cell?, hh]
    simp
    rw [List.getElem?_append_left hlt]
    exact this

theorem SlO.lens {T sz : Nat} {a : Option Addr} {cap : Nat} {xs : List (List Value)} {w : World} {S : Nat → Prop} (h : SlO T sz a cap xs w S) : xs.length ≤ cap ∧ cap ≤ maxLen := by
  rcases h.2 with ⟨rfl, rfl⟩ | ⟨b, junk, rfl, _, hh, h1, h2, h3⟩
  · exact ⟨Nat.le_refl _, Nat.zero_le _⟩
  · exact ⟨h3, h1⟩

theorem flatten_map_len {α : Type} {sz : Nat} {enc : α → List Value} (hl : ∀ x, (enc x).length = sz) (ls : List α) : ∀ x ∈ ls.map enc, x.length = sz := by
  intro x hx
  obtain ⟨y, _, rfl⟩ := List.mem_map.1 hx
  exact hl y

section
variable {P : Program} {EE : EX} {n : Nat} {fm : Fm} {L : List HP} {ops : Array Oper} {K : Act → World → Prop} {rest : List Oper} {d : Nat} {ty : TypeId} {pos : String} {after : Array Edge}

/-- the length and capacity are bounded -/
theorem j_lens {X : Act → World → Prop} {T sz : Nat} {a : Option Addr} {cap : Nat} {xs : List (List Value)} (hA : At L (SlO T sz a cap xs)) (h : xs.length ≤ cap → cap ≤ maxLen → J n fm L X) : J n fm L X := by
  intro a w hr hw
  obtain ⟨S, hS⟩ := hw.at hA
  exact h hS.lens.1 hS.lens.2 a w hr hw

theorem Sat.append_left {M G : List HP} {w : World} (h : Sat (M ++ G) w) : Sat M w :=
  h.re id (fun _ _ _ _ h => h) (fun i A hi => by
    have hlt := (List.getElem?_eq_some_iff.1 hi).1
    rw [id, List.getElem?_append_left hlt]; exact hi)

/-- the place of an element of a slice that is read by way of M -/
theorem j_index {t e : TypeId} {n1 sz : Nat} {d1 : TypeDesc} {x y : Operand} {a0 : Option Addr} {len cap : Nat} {ki : IntKind} {i : Int} [hs : TyC P t (.slice e) n1] [he : TyC P e d1 sz] {M G : List HP} {xs : List (List Value)}
    (hx : ev fm x = some (.slice a0 len cap)) (hy : ev fm y = some (.int ki i)) (hpk : Pk L (M ++ G)) (hv : ∀ w, Sat M w → SlR w sz a0 xs) (hlen : len = xs.length) (j : Nat) (hj : i = (j : Int)) (hlt : j < xs.length) (hd : Nat.blt d n = true)
    (k : ∀ b o, a0 = some ⟨b, o, none⟩ → (∀ w, Sat M w → ∀ q v, (xs[j])[q]? = some v → w.cell? ⟨b, o + j * sz + q, none⟩ = some v) → J n ((d, .pointer (some ⟨b, o + j * sz, none⟩)) :: fm) L (runS P EE ops K rest)) :
    J n fm L (runS P EE ops K (⟨some d, .indexAddr t x y, ty, pos, after, none⟩ :: rest)) := by
  intro a w hr hw
  have h1 := hv w (hw.pk hpk).append_left
  rcases h1.2 with h2 | ⟨b, o, ha, _⟩
  · rw [h2] at hlt; simp at hlt
  · subst ha
    subst hlen
    refine j_indexAddr (P := P) hx hy j hj hlt hd (k b o rfl (fun w' hw' q v hq => ?_)) a w hr hw
    have h3 := hv w' hw'
    rcases h3.2 with h2 | ⟨b', o', ha, h4⟩
    · rw [h2] at hlt; simp at hlt
    · simp only [Option.some.injEq, Addr.mk.injEq] at ha
      obtain ⟨rfl, rfl, _⟩ := ha
      exact h4 j _ (List.getElem?_eq_getElem hlt) q v hq

/-- a load by way of M -/
theorem j_loadv {t : TypeId} {d1 : TypeDesc} {x : Operand} {a0 : Addr} {v : Value} {n1 : Nat} [ht : TyC P t d1 n1] {M G : List HP} (ha : aggT d1 = false) (hx : ev fm x = some (.pointer (some a0))) (hpk : Pk L (M ++ G))
    (hc : ∀ w, Sat M w → w.cell? a0 = some v) (hd : Nat.blt d n = true)
    (k : J n ((d, v) :: fm) L (runS P EE ops K rest)) : J n fm L (runS P EE ops K (⟨some d, .load t x, ty, pos, after, none⟩ :: rest)) :=
  j_loadw ha hx (fun w hw => hc w (hw.pk hpk).append_left) hd k
theorem j_loadsv {t : TypeId} {d1 : TypeDesc} {x : Operand} {b o : Nat} (vs : List Value) {n1 : Nat} [ht : TyC P t d1 n1] {M G : List HP} (ha : aggT d1 = true) (hl : vs.length = n1) (hx : ev fm x = some (.pointer (some ⟨b, o, none⟩))) (hpk : Pk L (M ++ G))
    (hc : ∀ w, Sat M w → ∀ j v, vs[j]? = some v → w.cell? ⟨b, o + j, none⟩ = some v) (hd : Nat.blt d n = true)
    (k : J n ((d, .agg vs.toArray) :: fm) L (runS P EE ops K rest)) : J n fm L (runS P EE ops K (⟨some d, .load t x, ty, pos, after, none⟩ :: rest)) :=
  j_loadsw vs ha hl hx (fun w hw => hc w (hw.pk hpk).append_left) hd k

/-! ### making and growing -/
theorem slR_nil (w : World) (sz : Nat) (a : Option Addr) : SlR w sz a [] := ⟨fun x hx => (by cases hx), .inl rfl⟩

theorem slR_blk {M : List HP} {b : Nat} {T : TypeId} {xs : List (List Value)} {sz : Nat} (hl : ∀ x ∈ xs, x.length = sz) (hA : At M (blk b T xs.flatten)) : ∀ w, Sat M w → SlR w sz (some ⟨b, 0, none⟩) xs := by
  intro w hw
  refine ⟨hl, .inr ⟨b, 0, rfl, fun i x hi j v hj => ?_⟩⟩
  rw [hw.cell hA, Nat.zero_add]
  exact flatten_get xs i j x v hl hi hj

/-- '[]T{x}' -/
theorem j_buildSlice1 {t e : TypeId} {n1 sz by_ : Nat} {d1 : TypeDesc} {z : Value} {x : Operand} {v : Value} [hs : TyC P t (.slice e) n1] [he : TyC P e d1 sz] [hz : TyZ P e z by_] (hzs : z.cells.size = sz) (hx : ev fm x = some v) (hvs : v.cells.toList.length = sz) (hsz : 0 < sz ∧ sz ≤ 16777216)
    (hd : Nat.blt d n = true) (k : ∀ b, J n ((d, .slice (some ⟨b, 0, none⟩) 1 1) :: fm) (blk b e v.cells.toList :: L) (runS P EE ops K rest)) : J n fm L (runS P EE ops K (⟨some d, .buildSlice t 1 #[(0, x)], ty, pos, after, none⟩ :: rest)) :=
  j_new (f := fun b => .slice (some ⟨b, 0, none⟩) 1 1) rfl (fun a w hr => by
    have h1 := he.size
    have h2 := hz.zero
    cases hinf : P.info? e with
    | none => simp [hinf] at h1
    | some inf =>
      simp [hinf] at h1 h2
      have hfill : ∀ (cs : Array Value), cs.size = sz → Instr.fill (fun i => some (i * sz, sz)) cs [(0, v)] = some v.cells := by
        intro cs hcs
        have hv2 : v.cells.size = sz := by simpa using hvs
        have hfz : Instr.fill (fun i => some (i * sz, sz)) cs [(0, v)] = some (v.cells.zipIdx.foldl (fun cs (c, j) => cs.setIfInBounds (0 * sz + j) c) cs) := by
          simp only [Instr.fill, hv2, hcs, Nat.zero_mul, Nat.zero_add]
          simp
        rw [hfz]
        congr 1
        have key : ∀ (l : List Value) (o : Nat) (cs : Array Value), o + l.length = cs.size → (l.zipIdx o).foldl (fun (cs : Array Value) (p : Value × Nat) => cs.setIfInBounds p.2 p.1) cs = (cs.toList.take o ++ l).toArray := by
          intro l
          induction l with
          | nil => intro o cs h; simp at h; subst h; apply Array.toList_inj.1; simp; rw [← Array.length_toList, List.take_length]
          | cons y l ih =>
            intro o cs h
            simp only [List.length_cons] at h
            simp only [List.zipIdx_cons, List.foldl_cons]
            rw [ih (o + 1) _ (by simp; omega)]
            apply Array.toList_inj.1
            simp only [Array.toList_setIfInBounds]
            rw [List.take_set]
            have hlt : o < cs.toList.length := by simp; omega
            rw [List.take_succ_eq_append_getElem hlt, List.set_append_right _ _ (by simp; omega)]
            simp
            have : o - min o cs.size = 0 := by omega
            simp [this]
        have := key v.cells.toList 0 cs (by simp [hv2, hcs])
        simp at this
        rw [← Array.foldl_toList]
        simpa using this
      have hrun : (Instr.buildSlice t 1 #[(0, v)]).run P w = .ok (.slice (some ⟨w.heap.size, 0, none⟩) 1 1) (w.alloc (.cells v.cells e)) := by
        have hge : ¬ (16777216 < sz) := by omega
        have hfa : ∀ f : Nat → Value, Instr.fill (fun i => some (i * sz, sz)) ((Array.range sz).map f) [(0, v)] = some v.cells := fun f => hfill _ (by simp)
        have h0 : sz ≠ 0 := by omega
        · simp only [Instr.buildSlice, run_underlying hs.und, Sem.run_bind, Result.andThen_ok, sizeOf, typeInfo, run_program, hinf, Sem.run_pure, h1, Nat.one_mul, Nat.reducePow, gt_iff_lt, hge, if_false, h0, zeroValue, h2, newRow, run_newObj]
          rw [hfa]
          rfl
      simp [execOp, hr.ev hx, hrun]) hd k

/-- append of what is read by way of M to an owned slice -/
theorem run_append_any {w : World} {t e ty : TypeId} {n1 sz by_ : Nat} {d1 : TypeDesc} {z : Value} [hs : TyC P t (.slice e) n1] [he : TyC P e d1 sz] [hz : TyZ P e z by_] (hzs : z.cells.size = sz) (h0 : 0 < sz)
    {a : Option Addr} {cap : Nat} {xs ys : List (List Value)} {S : Nat → Prop} (hO : SlO e sz a cap xs w S) {a2 : Option Addr} {c2 : Nat} (hR : SlR w sz a2 ys) (h2 : a2 = none → ys = []) (h1 : ∀ y ∈ ys, ∀ u ∈ y, u.oneCell' = true)
    (h63 : xs.length + ys.length ≤ maxLen) (hbytes : (xs.length + ys.length) * by_ ≤ 140737488355328) :
    ∃ a' cap' w', (Builtin.append_ #[t, t] ty #[.slice a xs.length cap, .slice a2 ys.length c2]).run P w = .ok (.slice a' (xs ++ ys).length cap') w' ∧
      SlO e sz a' cap' (xs ++ ys) w' (fun b => S b ∨ w.heap.size ≤ b) ∧ (∀ b, b < w.heap.size → ¬ S b → w'.heap[b]? = w.heap[b]?) ∧ Kept0 w w' := by
  have hsz := he.size
  have hzz := hz.zero
  have hby := hz.bytes
  cases hinf : P.info? e with
  | none => simp [hinf] at hsz
  | some inf =>
    simp [hinf] at hsz hzz hby
    by_cases hy : ys = []
    · subst hy
      have hc := hO.lens.1
      refine ⟨a, cap, w, ?_, ?_, fun _ _ _ => rfl, Kept0.refl w⟩
      · have hfc : (Builtin.firstCells sz 0 (.slice a2 0 c2)).run P w = .ok #[] w := by
          cases a2 <;> simp [Builtin.firstCells, loadCells, loadCellsFrom]
        cases a <;> simp [Builtin.append_, run_underlying hs.und, sizeOf, typeInfo, hinf, hsz, Builtin.lenOf, hfc, hc, storeCells]
      · rw [List.append_nil]
        exact Loc.loc hO (fun b hb hS => ⟨.inl hS, rfl⟩) (Kept0.refl w)
    · rcases hR.2 with h | ⟨b2, o2, rfl, hread⟩
      · exact absurd h hy
      · have hnews : ∀ j u, ys.flatten[j]? = some u → w.cell? ((⟨b2, o2, none⟩ : Addr).add j) = some u := by
          intro j u hj
          have hlt : j < ys.length * sz := by rw [← flatten_length ys hR.1]; exact (List.getElem?_eq_some_iff.1 hj).1
          have hq : j / sz < ys.length := by rw [Nat.div_lt_iff_lt_mul h0]; exact hlt
          have hdm : j / sz * sz + j % sz = j := by rw [Nat.mul_comm]; exact Nat.div_add_mod j sz
          have hyl := hR.1 _ (List.getElem_mem hq)
          have hml : j % sz < (ys[j / sz]).length := by rw [hyl]; exact Nat.mod_lt _ h0
          have hf := flatten_get ys (j / sz) (j % sz) _ _ hR.1 (List.getElem?_eq_getElem hq) (List.getElem?_eq_getElem hml)
          rw [hdm, hj] at hf
          rw [add_lit]
          have := hread (j / sz) _ (List.getElem?_eq_getElem hq) (j % sz) _ (List.getElem?_eq_getElem hml)
          rw [Nat.add_assoc, hdm] at this
          rw [this]
          exact hf.symm
        have h1' : ∀ u ∈ ys.flatten, u.oneCell' = true := fun u hu => by
          obtain ⟨y, hy, hu⟩ := List.mem_flatten.1 hu
          exact h1 y hy u hu
        have hl2 : ∀ x ∈ xs ++ ys, x.length = sz := fun x hx => (List.mem_append.1 hx).elim (hO.1 x) (hR.1 x)
        have hyl := flatten_length ys hR.1
        have hxl := flatten_length xs hO.1
        subst hsz
        subst hby
        have h63' : xs.length + ys.length ≤ 9223372036854775807 := by simp only [maxLen] at h63; omega
        -- a new array
        have new : ∀ (old : Nat) (cs : Array Value), cs = (xs.flatten.toArray ++ ys.flatten.toArray ++ Builtin.zeroCells z.cells (grownCap w (xs.length + ys.length) old e - (xs.length + ys.length))) →
            SlO e inf.size (some ⟨w.heap.size, 0, none⟩) (grownCap w (xs.length + ys.length) old e) (xs ++ ys) (w.drew.alloc (.cells cs e)) (fun b => S b ∨ w.heap.size ≤ b) := by
          intro old cs hcs
          subst hcs
          have hge := grownCap_ge w (xs.length + ys.length) old e
          refine ⟨hl2, .inr ⟨w.heap.size, (Builtin.zeroCells z.cells (grownCap w (xs.length + ys.length) old e - (xs.length + ys.length))).toList, rfl, .inr (Nat.le_refl _), ?_, grownCap_le_maxLen w _ old e h63, ?_, by rw [List.length_append]; exact hge⟩⟩
          · have := heap_alloc_new w.drew (.cells (xs.flatten.toArray ++ ys.flatten.toArray ++ Builtin.zeroCells z.cells (grownCap w (xs.length + ys.length) old e - (xs.length + ys.length))) e)
            refine Eq.trans this ?_
            congr 2
            apply Array.toList_inj.1
            simp
          · have hz0 : ∀ m, (Builtin.zeroCells z.cells m).toList.length = m * z.cells.size := fun m => by simp [size_zeroCells]
            rw [List.length_append (as := xs), hz0, hzs, ← Nat.add_mul]
            exact Nat.mul_le_mul_right _ (by omega)
        have keep : ∀ (o : Obj) (b : Nat), b < w.heap.size → (w.drew.alloc o).heap[b]? = w.heap[b]? := fun o b hb => heap_alloc_old w.drew o hb
        rcases hO.2 with ⟨rfl, rfl⟩ | ⟨b1, junk, rfl, hS, hh, hc1, hc2, hc3⟩
        · have hpos : 0 < ys.length := List.length_pos_iff.2 hy
          cases a with
          | some ad =>
            have hr := run_append_grow (P := P) w t ty e inf z hs.und hinf hzz ad 0 0 [] (by simp) (by intro j v h; simp at h) ⟨b2, o2, none⟩ ys.length c2 ys.flatten hyl hnews (by omega) (by simp at h63' ⊢; omega) (growslice_fits (by omega) (by simpa using hbytes))
            have hn := new 0 _ rfl
            simp only [List.flatten_nil, List.length_nil, Nat.zero_add, Array.empty_append, List.nil_append] at hn hr
            simp only [List.length_nil, List.nil_append]
            exact ⟨_, _, _, hr, hn, fun b hb _ => keep _ b hb, ⟨rfl, rfl, rfl⟩⟩
          | none =>
          have hr := run_append_nil (P := P) w t ty e inf z hs.und hinf hzz ⟨b2, o2, none⟩ ys.length c2 ys.flatten hyl hnews hpos (by simp at h63'; omega) (by simp at hbytes; omega)
          have hn := new 0 _ rfl
          simp only [List.flatten_nil, List.length_nil, Nat.zero_add, Array.empty_append, List.nil_append] at hn
          simp only [List.length_nil, List.nil_append]
          exact ⟨_, _, _, hr, hn, fun b hb _ => keep _ b hb, ⟨rfl, rfl, rfl⟩⟩
        · by_cases hroom : xs.length + ys.length ≤ cap
          · have hfit : xs.length * inf.size + ys.flatten.length ≤ (xs.flatten ++ junk).toArray.size := by
              have : (xs.length + ys.length) * inf.size ≤ cap * inf.size := Nat.mul_le_mul_right _ hroom
              rw [Nat.add_mul] at this
              simp [hxl, hyl]; omega
            have hr := run_append_room (P := P) w t ty e inf hs.und hinf b1 xs.length cap _ hh ⟨b2, o2, none⟩ ys.length c2 ys.flatten hyl hnews h1' hroom hfit
            refine ⟨some ⟨b1, 0, none⟩, cap, _, by rw [List.length_append]; exact hr, ⟨hl2, .inr ⟨b1, junk.drop (ys.length * inf.size), rfl, .inl hS, ?_, hc1, ?_, by rw [List.length_append]; exact hroom⟩⟩, fun b _ hn => setRow_other w b1 b _ (fun e => hn (e ▸ hS)), ⟨rfl, rfl, rfl⟩⟩
            · refine (setRow_heap w b1 _ _ e (0, 0) hh).trans ?_
              congr 2
              apply Array.toList_inj.1
              simp only [List.toList_toArray]
              rw [← hxl, List.take_left, List.flatten_append, List.append_assoc, List.append_assoc]
              congr 2
              rw [← hyl, List.drop_append, List.drop_eq_nil_of_le (by omega)]
              simp
            · simp only [List.length_append, List.length_drop]
              have : (xs.length + ys.length) * inf.size ≤ cap * inf.size := Nat.mul_le_mul_right _ hroom
              rw [Nat.add_mul] at this ⊢
              omega
          · have holds : ∀ j u, xs.flatten[j]? = some u → w.cell? ((⟨b1, 0, none⟩ : Addr).add j) = some u := by
              intro j u hj
              have hlt := (List.getElem?_eq_some_iff.1 hj).1
              rw [add_lit, Nat.zero_add]
              simp only [World.cell?, hh]
              simp
              rw [List.getElem?_append_left hlt]
              exact hj
            have hr := run_append_grow (P := P) w t ty e inf z hs.und hinf hzz ⟨b1, 0, none⟩ xs.length cap xs.flatten hxl holds ⟨b2, o2, none⟩ ys.length c2 ys.flatten hyl hnews (by omega) (by omega) (growslice_fits (by omega) hbytes)
            have hn := new cap _ rfl
            rw [← List.length_append] at hr hn
            refine ⟨_, _, _, hr, hn, fun b hb _ => keep _ b hb, ⟨rfl, rfl, rfl⟩⟩
end
end Go.Proofs.Ytnmfpgfgjjmfhaa
