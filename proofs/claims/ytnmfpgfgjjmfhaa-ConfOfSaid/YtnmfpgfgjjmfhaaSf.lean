/- Regions of many orders, told by what each operation needs and brings. -/
import Derived.Test.YtnmfpgfgjjmfhaaSa
import Derived.Test.YtnmfpgfgjjmfhaaSh
set_option linter.unusedVariables false
set_option linter.unusedSimpArgs false
namespace Go.Proofs.Ytnmfpgfgjjmfhaa
open Go

def maskD (ks : List Nat) (x : Nat → Value) : Nat → Value := fun j => bif ks.contains j then x j else undef
def depF (ds : List Nat) (x : Nat → Value) : List Nat → Fm
  | [] => []
  | k :: ks => (ds.getD k 0, x k) :: depF ds x ks
def factsL (dp : List (List Nat)) (Φ : Nat → (Nat → Value) → Value → Prop) (x : Nat → Value) : List Nat → Prop
  | [] => True
  | k :: ks => Φ k (maskD (dp.getD k []) x) (x k) ∧ factsL dp Φ x ks
def endI (n t : Nat) (Ψ : Value → Prop) (LL : Value → List HP) : Act → World → Prop := fun a w => ∃ v, Rep n [(t, v)] a ∧ Ψ v ∧ Sat (LL v) w

section
variable {P : Program} {EE : EX} {n : Nat} {ops : Array Oper}

def oblAll (P : Program) (EE : EX) (n : Nat) (ops : Array Oper) (fm0 : Fm) (L0 : List HP) (ds : List Nat) (dp : List (List Nat)) (Φ : Nat → (Nat → Value) → Value → Prop) (j0 : Nat) (Hp : Value → List HP) : List Nat → List Oper → Prop
  | [], _ => True
  | _ :: _, [] => False
  | i :: is, o :: os => (∀ x G, (G = [] ∨ ∃ v, G = Hp v) → factsL dp Φ x (dp.getD i []) → J n (depF ds x (dp.getD i []) ++ fm0) (G ++ L0) (runS P EE ops (endI n (ds.getD i 0) (Φ i (maskD (dp.getD i []) x)) (fun v => (bif Nat.beq i j0 then Hp v else []) ++ (G ++ L0))) [o])) ∧ oblAll P EE n ops fm0 L0 ds dp Φ j0 Hp is os

theorem oblAll_get {fm0 : Fm} {L0 : List HP} {ds : List Nat} {dp : List (List Nat)} {Φ : Nat → (Nat → Value) → Value → Prop} {j0 : Nat} {Hp : Value → List HP} : ∀ {is : List Nat} {os : List Oper}, oblAll P EE n ops fm0 L0 ds dp Φ j0 Hp is os → ∀ (k i : Nat), is[k]? = some i → ∃ o, os[k]? = some o ∧
    ∀ x G, (G = [] ∨ ∃ v, G = Hp v) → factsL dp Φ x (dp.getD i []) → J n (depF ds x (dp.getD i []) ++ fm0) (G ++ L0) (runS P EE ops (endI n (ds.getD i 0) (Φ i (maskD (dp.getD i []) x)) (fun v => (bif Nat.beq i j0 then Hp v else []) ++ (G ++ L0))) [o])
  | [], _, _, k, i, h => by simp at h
  | _ :: _, [], h, _, _, _ => h.elim
  | j :: is, o :: os, h, 0, i, hk => by
    simp at hk; subst hk
    exact ⟨o, rfl, h.1⟩
  | j :: is, o :: os, h, k + 1, i, hk => oblAll_get h.2 k i (by simpa using hk)

theorem stepS_put {o : Oper} {a : Act} {w : World} {K : Act → World → Prop} (h : stepS P EE ops o K a w) : stepS P EE ops o (fun a' w' => K a' w' ∧ ((∃ v, a' = a.put o.dst v) ∨ a'.defers ≠ [])) a w := by
  unfold stepS at *
  split
  · rename_i hw
    rw [if_pos hw] at h
    cases hm : cls P o.op with
    | p => rw [hm] at h; obtain ⟨v, h1, h2⟩ := h; exact ⟨v, h1, h2, .inl ⟨v, rfl⟩⟩
    | r => rw [hm] at h; obtain ⟨v, h1, h2⟩ := h; exact ⟨v, h1, h2, .inl ⟨v, rfl⟩⟩
    | n => rw [hm] at h; obtain ⟨b, f, h1, h2⟩ := h; exact ⟨b, f, h1, h2, .inl ⟨_, rfl⟩⟩
    | w =>
      rw [hm] at h
      simp only [doS] at h ⊢
      exact afterW_map (fun v w' hk => ⟨hk, .inl ⟨v, rfl⟩⟩) (fun d w' hk => ⟨hk, .inr (by rw [put_defers']; exact List.cons_ne_nil _ _)⟩) (fun E hE ch w' hk => hk) h
  · rename_i hw
    rw [if_neg hw] at h
    exact ⟨h, .inl ⟨_, rfl⟩⟩

def InvD (n : Nat) (fm0 : Fm) (L0 : List HP) (ds : List Nat) (dp : List (List Nat)) (Φ : Nat → (Nat → Value) → Value → Prop) (j0 : Nat) (Hp : Value → List HP) (listed : Array Bool) (a : Act) (w : World) : Prop :=
  ∃ x : Nat → Value, Rep n fm0 a ∧ (∀ k, k < ds.length → listed.getD k false = true → Φ k (maskD (dp.getD k []) x) (x k) ∧ a.tmps[ds.getD k 0]? = some (x k)) ∧ Sat ((bif listed.getD j0 false then Hp (x j0) else []) ++ L0) w

def disjB (fm0 : Fm) (ds : List Nat) : Bool := ds.all fun t => (look fm0 t).isNone
/-- what is asked of the tables -/
def invB (l : List Oper) (ds : List Nat) (dp : List (List Nat)) : Bool :=
  (List.range ds.length).all (fun i => match l[i]? with
    | none => false
    | some o => o.dst == some (ds.getD i 0) && (dp.getD i []).all fun k => decide (k < i) && (o.after.toList.any fun e => Region.binds .any e && e.on == k)) &&
  decide ds.Nodup && (List.range l.length).all (fun j => decide (j < ds.length) || (List.range ds.length).all fun k => ((Region.before l.toArray).getD j 0).testBit k)

theorem slots_depF {ds : List Nat} {x : Nat → Value} {fm0 : Fm} {a : Act} (h0 : Rep n fm0 a) : ∀ (ks : List Nat), (∀ k ∈ ks, a.tmps[ds.getD k 0]? = some (x k)) → Rep n (depF ds x ks ++ fm0) a
  | [], _ => h0
  | k :: ks, h => by
    have ih := slots_depF (ds := ds) (x := x) h0 ks (fun j hj => h j (List.mem_cons_of_mem _ hj))
    refine ⟨h0.defers, h0.size, fun i v hi => ?_⟩
    have hi' : look ((ds.getD k 0, x k) :: (depF ds x ks ++ fm0)) i = some v := hi
    rw [look_cons] at hi'
    split at hi'
    · rename_i hki
      subst hki
      obtain rfl := Option.some.inj hi'
      exact h k (List.mem_cons_self ..)
    · exact ih.slot i v hi'
theorem facts_of {dp : List (List Nat)} {Φ : Nat → (Nat → Value) → Value → Prop} {x : Nat → Value} : ∀ (ks : List Nat), (∀ k ∈ ks, Φ k (maskD (dp.getD k []) x) (x k)) → factsL dp Φ x ks
  | [], _ => trivial
  | k :: ks, h => ⟨h k (List.mem_cons_self ..), facts_of ks (fun j hj => h j (List.mem_cons_of_mem _ hj))⟩

theorem runA_inv {l : List Oper} {fm0 : Fm} {L0 : List HP} {ds : List Nat} {dp : List (List Nat)} {Φ : Nat → (Nat → Value) → Value → Prop} {j0 : Nat} {Hp : Value → List HP} {K : Act → World → Prop}
    (hB : invB l ds dp = true) (hd0 : disjB fm0 ds = true) (he : edgeB l.toArray = true) (hj0 : j0 < ds.length) (hlen : ds.length ≤ l.length)
    (hob : oblAll P EE n l.toArray fm0 L0 ds dp Φ j0 Hp (List.range ds.length) l)
    (hend : ∀ f listed a w, listed.size = l.length → (∀ i oi, l.toArray[i]? = some oi → listed.getD i false = true → ∀ e ∈ oi.after, Region.binds .any e = true → listed.getD e.on false = true) → (∀ k, k < l.length → listed.getD k false = decide (k < ds.length)) → unl l.toArray listed ≤ f → InvD n fm0 L0 ds dp Φ j0 Hp listed a w → runA P EE l.toArray K f listed a w) :
    ∀ (f : Nat) (listed : Array Bool) (a : Act) (w : World), listed.size = l.length → (∀ i oi, l.toArray[i]? = some oi → listed.getD i false = true → ∀ e ∈ oi.after, Region.binds .any e = true → listed.getD e.on false = true) → (∀ k, ds.length ≤ k → k < l.length → listed.getD k false = false) → unl l.toArray listed ≤ f → InvD n fm0 L0 ds dp Φ j0 Hp listed a w → runA P EE l.toArray K f listed a w := by
  unfold invB at hB
  simp only [Bool.and_eq_true, List.all_eq_true, List.mem_range, decide_eq_true_eq, Bool.or_eq_true] at hB
  obtain ⟨⟨hB1, hB2⟩, hB3⟩ := hB
  have gd : ∀ (listed : Array Bool) (k : Nat), listed.size = l.length → k < l.length → listed.getD k true = listed.getD k false := fun listed k hs hk => by
    rw [Array.getD_eq_getD_getElem?, Array.getD_eq_getD_getElem?, Array.getElem?_eq_getElem (by omega)]; rfl
  intro f
  induction f with
  | zero =>
    intro listed a w hs hcl hlate hun hinv
    -- nothing is left
    have all : ∀ k, k < l.length → listed.getD k true = true := fun k hk => by
      cases hb : listed.getD k true with
      | true => rfl
      | false =>
        have : k ∈ (List.range l.toArray.size).filter fun k => !listed.getD k true := by
          rw [List.mem_filter, List.mem_range]; exact ⟨by simpa using hk, by simp [hb]⟩
        have := List.length_pos_of_mem this
        unfold unl at hun
        omega
    refine hend 0 listed a w hs hcl (fun k hk => ?_) hun hinv
    rw [← gd listed k hs hk, all k hk]
    by_cases c : k < ds.length
    · exact (decide_eq_true c).symm
    · have := hlate k (by omega) hk
      rw [← gd listed k hs hk, all k hk] at this; cases this
  | succ f ih =>
    intro listed a w hs hcl hlate hun hinv
    by_cases hfull : ∀ k, k < ds.length → listed.getD k false = true
    · refine hend (f + 1) listed a w hs hcl (fun k hk => ?_) hun hinv
      by_cases c : k < ds.length
      · rw [hfull k c, decide_eq_true c]
      · rw [hlate k (by omega) hk, decide_eq_false c]
    · -- the first one that is left is ready
      obtain ⟨k0, hk0, hk0f⟩ : ∃ k, k < ds.length ∧ listed.getD k false = false := by
        refine Classical.byContradiction fun hn => hfull fun k hk => ?_
        cases hb : listed.getD k false with
        | true => rfl
        | false => exact absurd ⟨k, hk, hb⟩ hn
      refine ⟨fun hr => ?_, fun i hi => ?_⟩
      · -- some operation is ready
        exfalso
        have : ∀ k, k < ds.length → listed.getD k false = true := by
          intro k
          induction k using Nat.strongRecOn with
          | ind k ihk =>
            intro hk
            cases hb : listed.getD k false with
            | true => rfl
            | false =>
              exfalso
              have hkl : k < l.toArray.size := by simp; omega
              have : k ∈ Region.ready .any l.toArray listed := by
                rw [mem_ready]
                refine ⟨by rw [gd listed k hs (by omega), hb], l.toArray[k], Array.getElem?_eq_getElem hkl, fun e hem hbe => ?_⟩
                have hee := he
                unfold edgeB at hee
                have := List.all_eq_true.1 hee k (List.mem_range.2 hkl)
                rw [Array.getElem?_eq_getElem hkl] at this
                simp only [Bool.and_eq_true, Array.all_eq_true_iff_forall_mem, Bool.or_eq_true, Bool.not_eq_true', decide_eq_true_eq] at this
                have hon : e.on < k := by
                  rcases this.1 e hem with h | h
                  · rw [hbe] at h; cases h
                  · exact h
                have h1 := ihk e.on hon (by omega)
                first
                  | exact h1
                  | (rw [gd listed e.on hs (by omega)]; exact h1)
              rw [hr] at this; cases this
        rw [this k0 hk0] at hk0f; cases hk0f
      · obtain ⟨hun0, oi, hoi, hdep⟩ := mem_ready.1 hi
        have hil : i < l.length := by simpa using (Array.getElem?_eq_some_iff.1 hoi).1
        have him : i < ds.length := by
          refine Nat.lt_of_not_le fun hge => ?_
          have h3 := hB3 i hil
          rcases h3 with h3 | h3
          · omega
          · have hb := h3 k0 hk0
            exact waits_not_ready he (by simpa using hs) hcl i k0 hb (by simp; omega) (by rw [gd listed k0 hs (by omega), hk0f]) hi
        have hB1i := hB1 i him
        have hoi' : l[i]? = some oi := by simpa using hoi
        rw [hoi'] at hB1i
        simp only [Bool.and_eq_true, beq_iff_eq, List.all_eq_true, decide_eq_true_eq, List.any_eq_true] at hB1i
        obtain ⟨hdst, hdeps⟩ := hB1i
        obtain ⟨x, hr0, hx, hsat⟩ := hinv
        have hdone : ∀ k ∈ dp.getD i [], k < ds.length ∧ listed.getD k false = true := fun k hk => by
          obtain ⟨hki, e, hem, hbe, heon⟩ := hdeps k hk
          have hem := Array.mem_toList_iff.1 hem
          refine ⟨by omega, ?_⟩
          have := hdep e hem hbe
          subst heon
          first
            | exact this
            | (rw [← gd listed e.on hs (by omega)]; exact this)
        obtain ⟨o', ho', hJ⟩ := oblAll_get hob i i (by simp [him])
        rw [hoi'] at ho'
        obtain rfl := Option.some.inj ho'
        rw [stepI_eq hoi]
        have hj := hJ x (bif listed.getD j0 false then Hp (x j0) else []) (by cases hb : listed.getD j0 false with
          | false => exact .inl rfl
          | true => exact .inr ⟨_, rfl⟩) (facts_of _ fun k hk => (hx k (hdone k hk).1 (hdone k hk).2).1) a w (slots_depF hr0 _ fun k hk => (hx k (hdone k hk).1 (hdone k hk).2).2) hsat
        refine stepS_mono (fun a' w' hk => ?_) (stepS_put (show stepS P EE l.toArray oi (endI n (ds.getD i 0) (Φ i (maskD (dp.getD i []) x)) _) a w from hj))
        obtain ⟨⟨v, hrv, hΨ, hS⟩, hput⟩ := hk
        rcases hput with ⟨v', rfl⟩ | hdf
        rotate_left
        · exact absurd hrv.defers hdf
        rw [hdst] at hrv ⊢
        have hti : ds.getD i 0 < n := by
          have := hrv.slot (ds.getD i 0) v (by rw [look_cons, if_pos rfl])
          have := (Array.getElem?_eq_some_iff.1 this).1
          rw [hrv.size] at this
          exact this
        have hvv : v' = v := by
          have := hrv.slot (ds.getD i 0) v (by rw [look_cons, if_pos rfl])
          simp only [Act.put] at this
          rw [Array.getElem?_setIfInBounds_self_of_lt (by rw [hr0.size]; exact hti)] at this
          exact Option.some.inj this
        subst hvv
        have hsz' : (listed.setIfInBounds i true).size = l.length := by simp [hs]
        have hif : listed.getD i false = false := by rw [← gd listed i hs hil]; exact hun0
        have hne : ∀ k, k < ds.length → k ≠ i → ds.getD k 0 ≠ ds.getD i 0 := fun k hk hki heq => by
          rw [List.getD_eq_getElem?_getD, List.getD_eq_getElem?_getD, List.getElem?_eq_getElem hk, List.getElem?_eq_getElem him] at heq
          exact hki ((List.getElem_inj hB2).1 heq)
        refine ih (listed.setIfInBounds i true) _ w' hsz' (closed_set hi hcl) (fun k hk hkl => ?_) (by have := unl_set (by simpa using hs) hi; omega) ?_
        · rw [getD_set_ne false (by omega)]; exact hlate k hk hkl
        · refine ⟨fun j => if j = i then v' else x j, ?_, fun k hk hlk => ?_, ?_⟩
          · refine ⟨hrv.defers, hrv.size, fun t u ht => ?_⟩
            have hne0 : ds.getD i 0 ≠ t := fun heq => by
              unfold disjB at hd0
              have := List.all_eq_true.1 hd0 (ds.getD i 0) (by rw [List.getD_eq_getElem?_getD, List.getElem?_eq_getElem him]; exact List.getElem_mem him)
              rw [heq, ht] at this; cases this
            simp only [Act.put]
            rw [Array.getElem?_setIfInBounds_ne hne0]
            exact hr0.slot t u ht
          · by_cases hki : k = i
            · subst hki
              refine ⟨?_, ?_⟩
              · have hmask : maskD (dp.getD k []) (fun j => if j = k then v' else x j) = maskD (dp.getD k []) x := by
                  funext j
                  unfold maskD
                  by_cases hc : (dp.getD k []).contains j = true
                  · have := (hdeps j (List.contains_iff_mem.1 hc)).1
                    rw [hc]
                    exact if_neg (by omega)
                  · simp only [Bool.not_eq_true] at hc
                    rw [hc]; rfl
                rw [hmask]
                show Φ k _ (if k = k then v' else x k)
                rw [if_pos rfl]
                exact hΨ
              · show _ = some (if k = k then v' else x k)
                rw [if_pos rfl]
                simp only [Act.put]
                rw [Array.getElem?_setIfInBounds_self_of_lt (by rw [hr0.size]; exact hti)]
            · rw [getD_set_ne false (Ne.symm hki)] at hlk
              obtain ⟨h1, h2⟩ := hx k hk hlk
              refine ⟨?_, ?_⟩
              · have hmask : maskD (dp.getD k []) (fun j => if j = i then v' else x j) = maskD (dp.getD k []) x := by
                  funext j
                  unfold maskD
                  by_cases hc : (dp.getD k []).contains j = true
                  · have hjm := List.contains_iff_mem.1 hc
                    have hkl : k < l.length := by omega
                    have hB1k := hB1 k hk
                    rw [List.getElem?_eq_getElem hkl] at hB1k
                    simp only [Bool.and_eq_true, beq_iff_eq, List.all_eq_true, decide_eq_true_eq, List.any_eq_true] at hB1k
                    obtain ⟨hjk, e, hem, hbe, heon⟩ := hB1k.2 j hjm
                    have hem := Array.mem_toList_iff.1 hem
                    have hld := hcl k l[k] (by simp [hkl]) hlk e hem hbe
                    have hji : j ≠ i := fun hji => by
                      subst hji; subst heon
                      rw [hif] at hld; cases hld
                    rw [hc]
                    exact if_neg hji
                  · simp only [Bool.not_eq_true] at hc
                    rw [hc]; rfl
                rw [hmask]
                show Φ k _ (if k = i then v' else x k)
                rw [if_neg hki]
                exact h1
              · show _ = some (if k = i then v' else x k)
                rw [if_neg hki]
                simp only [Act.put]
                rw [Array.getElem?_setIfInBounds_ne (Ne.symm (hne k hk hki))]
                exact h2
          · by_cases hji : i = j0
            · subst hji
              rw [hif] at hS
              simp only [Nat.beq_refl, cond_true, cond_false, List.nil_append] at hS
              have e1 : (listed.setIfInBounds i true).getD i false = true := by simp [show i < listed.size by omega]
              rw [e1]
              simpa using hS
            · have hb : Nat.beq i j0 = false := by
                cases hb : Nat.beq i j0 with
                | false => rfl
                | true => exact absurd (Nat.eq_of_beq_eq_true hb) hji
              rw [hb] at hS
              rw [getD_set_ne false hji]
              show Sat ((bif listed.getD j0 false then Hp (if j0 = i then v' else x j0) else []) ++ L0) w'
              rw [if_neg (Ne.symm hji)]
              simpa using hS

def lstT (n m : Nat) : Array Bool := ((List.range n).map fun i => Nat.blt i m).toArray
theorem lstT_of {listed : Array Bool} {n m : Nat} (hs : listed.size = n) (h : ∀ k, k < n → listed.getD k false = decide (k < m)) : listed = lstT n m := by
  apply Array.ext
  · simp [lstT, hs]
  · intro i h1 h2
    have hi : i < n := by omega
    have := h i hi
    rw [Array.getD_eq_getD_getElem?, Array.getElem?_eq_getElem h1] at this
    simp only [lstT, List.getElem_toArray, List.getElem_map, List.getElem_range]
    rw [show listed[i] = decide (i < m) from this]
    cases hb : Nat.blt i m with
    | true => exact decide_eq_true (Nat.blt_eq.mp hb)
    | false => exact decide_eq_false (fun hlt => by have := Nat.blt_eq.mpr hlt; rw [hb] at this; cases this)

variable {fm : Fm} {L : List HP}
theorem invD_start {fm0 : Fm} {ds : List Nat} {dp : List (List Nat)} {Φ : Nat → (Nat → Value) → Value → Prop} {j0 : Nat} {Hp : Value → List HP} {m : Nat} {a : Act} {w : World} (hsub : Sub fm0 fm) (hr : Rep n fm a) (hs : Sat L w) : InvD n fm0 L ds dp Φ j0 Hp (Array.replicate m false) a w := by
  refine ⟨fun _ => undef, hr.sub hsub, fun k _ hk => ?_, ?_⟩
  · rw [getD_rep_false] at hk; cases hk
  · rw [getD_rep_false]
    simpa using hs
theorem invD_end {fm0 : Fm} {ds : List Nat} {dp : List (List Nat)} {Φ : Nat → (Nat → Value) → Value → Prop} {j0 : Nat} {Hp : Value → List HP} {listed : Array Bool} {a : Act} {w : World} {X : Act → World → Prop} (hj0 : j0 < ds.length) (hf : ∀ k, k < ds.length → listed.getD k false = true)
    (h : InvD n fm0 L ds dp Φ j0 Hp listed a w) (k : ∀ x, factsL dp Φ x (List.range ds.length) → J n (depF ds x (List.range ds.length) ++ fm0) (Hp (x j0) ++ L) X) : X a w := by
  obtain ⟨x, hr, hx, hs⟩ := h
  rw [hf j0 hj0] at hs
  exact k x (facts_of _ fun i hi => (hx i (List.mem_range.1 hi) (hf i (List.mem_range.1 hi))).1) a w (slots_depF hr _ fun i hi => (hx i (List.mem_range.1 hi) (hf i (List.mem_range.1 hi))).2) hs

/-- a region of many orders: each operation once; panics go nowhere -/
theorem j_inv {Q : Exit → Act → World → Prop} {id : Nat} {l : List Oper} [hm : Mixed P] (ds : List Nat) (dp : List (List Nat)) (q : Pl) (fm0 : Fm) (Φ : Nat → (Nat → Value) → Value → Prop) (j0 : Nat) (Hp : Value → List HP)
    (hq : (Region.noSelect l.toArray && edgeB l.toArray && invB l ds dp && Nat.blt j0 ds.length && Nat.ble ds.length l.length && chkT P l.toArray true (lstT l.length ds.length) q) = true) (hsub : Sub fm0 fm) (hd0 : disjB fm0 ds = true)
    (hob : oblAll P none n l.toArray fm0 L ds dp Φ j0 Hp (List.range ds.length) l)
    (hend : ∀ x, factsL dp Φ x (List.range ds.length) → J n (depF ds x (List.range ds.length) ++ fm0) (Hp (x j0) ++ L) (runT P none l.toArray (Q .normal) q)) : J n fm L ((Code.region id l.toArray true).wp P Q) := by
  intro a w hr hs
  simp only [Bool.and_eq_true] at hq
  obtain ⟨⟨⟨⟨⟨h1, h2⟩, h3⟩, h4⟩, h5⟩, h6⟩ := hq
  have hj0 := Nat.blt_eq.mp h4
  have hlen := Nat.le_of_ble_eq_true h5
  refine wp_region_any hm.mixed (runA_wpAny _ _ _ _ ?_)
  have hsz : (Array.replicate l.toArray.size false).size = l.length := by simp
  refine runA_inv h3 hd0 h2 hj0 hlen hob (fun f listed a w hs hcl hfl hun hinv => ?_) _ _ a w.drew hsz (fun i oi _ hl => ?_) (fun k _ _ => getD_rep_false _ _) (Nat.le_trans (List.length_filter_le _ _) (by simp)) (invD_start hsub hr hs.drew)
  · have hl : listed = lstT l.length ds.length := lstT_of hs hfl
    subst hl
    exact (runA_of_runT h1 h2 q f _ (by simpa using hs) hcl (by unfold unl at hun; exact hun)).1 h6 a w (invD_end hj0 (fun k hk => by rw [hfl k (by omega)]; exact decide_eq_true hk) hinv hend)
  · rw [getD_rep_false] at hl; cases hl
/-- .. and where panics go on -/
theorem j_invX {Q : Exit → Act → World → Prop} {id : Nat} {l : List Oper} [hm : Mixed P] [hQ : BlindQ Q] (ds : List Nat) (dp : List (List Nat)) (q : Pl) (fm0 : Fm) (Φ : Nat → (Nat → Value) → Value → Prop) (j0 : Nat) (Hp : Value → List HP)
    (hq : (Region.noSelect l.toArray && edgeB l.toArray && invB l ds dp && Nat.blt j0 ds.length && Nat.ble ds.length l.length && chkX P l.toArray true (lstT l.length ds.length) q) = true) (hsub : Sub fm0 fm) (hd0 : disjB fm0 ds = true)
    (hob : oblAll P (some fun ch => Q (.panic ch)) n l.toArray fm0 L ds dp Φ j0 Hp (List.range ds.length) l)
    (hend : ∀ x, factsL dp Φ x (List.range ds.length) → J n (depF ds x (List.range ds.length) ++ fm0) (Hp (x j0) ++ L) (runT P (some fun ch => Q (.panic ch)) l.toArray (Q .normal) q)) : J n fm L ((Code.region id l.toArray true).wp P Q) := by
  intro a w hr hs
  simp only [Bool.and_eq_true] at hq
  obtain ⟨⟨⟨⟨⟨h1, h2⟩, h3⟩, h4⟩, h5⟩, h6⟩ := hq
  have hj0 := Nat.blt_eq.mp h4
  have hlen := Nat.le_of_ble_eq_true h5
  refine wp_region_any hm.mixed (runA_wpAnyX (EE := some fun ch => Q (.panic ch)) rfl _ _ _ _ ?_)
  have hsz : (Array.replicate l.toArray.size false).size = l.length := by simp
  refine runA_inv h3 hd0 h2 hj0 hlen hob (fun f listed a w hs hcl hfl hun hinv => ?_) _ _ a w.drew hsz (fun i oi _ hl => ?_) (fun k _ _ => getD_rep_false _ _) (Nat.le_trans (List.length_filter_le _ _) (by simp)) (invD_start hsub hr hs.drew)
  · have hl : listed = lstT l.length ds.length := lstT_of hs hfl
    subst hl
    exact (runA_of_runTX (fun E hE => by cases hE; exact hQ.blind) h1 h2 q f _ (by simpa using hs) hcl hun).1 h6 a w (invD_end hj0 (fun k hk => by rw [hfl k (by omega)]; exact decide_eq_true hk) hinv hend)
  · rw [getD_rep_false] at hl; cases hl
theorem stepS_wd {E : List PanicEntry → Act → World → Prop} {K : Act → World → Prop} (ds : List Deferred) {o : Oper} {a : Act} {w : World} (h : stepS P (some fun ch => wd ds (E ch)) ops o (wd ds K) a w) : stepS P (some E) ops o K (Act.on a ds) w := runS_wd ds [o] a w h
theorem runA_wd {E : List PanicEntry → Act → World → Prop} {K : Act → World → Prop} (ds : List Deferred) : ∀ (f : Nat) (listed : Array Bool) (a : Act) (w : World), runA P (some fun ch => wd ds (E ch)) ops (wd ds K) f listed a w → runA P (some E) ops K f listed (Act.on a ds) w
  | 0, _, _, _, h => h
  | f + 1, listed, a, w, h => ⟨h.1, fun i hi => by
    have h1 := h.2 i hi
    obtain ⟨_, o, ho, _⟩ := mem_ready.1 hi
    rw [stepI_eq ho] at h1 ⊢
    exact stepS_wd ds (stepS_mono (fun a w hk => runA_wd ds f _ a w hk) h1)⟩
/-- plans that take nothing freely -/
def chkF (ops : Array Oper) : Bool → Array Bool → Pl → Bool
  | true, listed, .done => (Region.ready .any ops listed).isEmpty
  | true, listed, .fork i t u => (forksT (.fork i t u) == Region.ready .any ops listed) && chkF ops true (listed.setIfInBounds i true) t && chkF ops false listed u
  | true, _, _ => false
  | false, listed, .fork i t u => chkF ops true (listed.setIfInBounds i true) t && chkF ops false listed u
  | false, _, .stop => true
  | false, _, _ => false
theorem runA_of_runTF {K : Act → World → Prop} : ∀ (p : Pl) (f : Nat) (listed : Array Bool), listed.size = ops.size → unl ops listed ≤ f →
    (chkF ops true listed p = true → ∀ a w, runT P EE ops K p a w → runA P EE ops K f listed a w) ∧
    (chkF ops false listed p = true → ∀ i ∈ forksT p, i ∈ Region.ready .any ops listed → ∀ a w, runT P EE ops K p a w → ∀ f', f = f' + 1 → stepI P EE ops i (runA P EE ops K f' (listed.setIfInBounds i true)) a w) := by
  intro p
  induction p with
  | done =>
    intro f listed hsz hf
    refine ⟨fun hc a w h => ?_, fun hc => ?_⟩
    · have hr : Region.ready .any ops listed = [] := by simpa [chkF] using hc
      cases f with
      | zero => exact ⟨hr, h⟩
      | succ f => exact ⟨fun _ => h, by rw [hr]; simp⟩
    · simp [chkF] at hc
  | stop =>
    intro f listed hsz hf
    exact ⟨fun hc => by simp [chkF] at hc, fun hc i hi => by simp [forksT] at hi⟩
  | take i t ih =>
    intro f listed hsz hf
    exact ⟨fun hc => by simp [chkF] at hc, fun hc => by simp [chkF] at hc⟩
  | fork i t u iht ihu =>
    intro f listed hsz hf
    have one : chkF ops true (listed.setIfInBounds i true) t = true → i ∈ Region.ready .any ops listed → ∀ a w, stepI P EE ops i (runT P EE ops K t) a w → ∀ f', f = f' + 1 → stepI P EE ops i (runA P EE ops K f' (listed.setIfInBounds i true)) a w := by
      intro hc hi a w h f' hff
      subst hff
      obtain ⟨_, oi, ho, _⟩ := mem_ready.1 hi
      rw [stepI_eq ho] at h ⊢
      have := unl_set hsz hi
      exact stepS_mono (fun a' w' hk => (iht f' (listed.setIfInBounds i true) (by simp [hsz]) (by omega)).1 hc a' w' hk) h
    have two : chkF ops true (listed.setIfInBounds i true) t = true → chkF ops false listed u = true → ∀ q ∈ forksT (.fork i t u), q ∈ Region.ready .any ops listed → ∀ a w, runT P EE ops K (.fork i t u) a w → ∀ f', f = f' + 1 → stepI P EE ops q (runA P EE ops K f' (listed.setIfInBounds q true)) a w := by
      intro hc1 hc2 q hq hqr a w h f' hff
      rcases List.mem_cons.1 hq with rfl | hq
      · exact one hc1 hqr a w h.1 f' hff
      · exact (ihu f listed hsz hf).2 hc2 q hq hqr a w h.2 f' hff
    refine ⟨fun hc a w h => ?_, fun hc q hq hqr a w h f' hff => ?_⟩
    · simp only [chkF, Bool.and_eq_true, beq_iff_eq] at hc
      obtain ⟨⟨hfk, hc1⟩, hc2⟩ := hc
      have hi : i ∈ Region.ready .any ops listed := by rw [← hfk]; exact List.mem_cons_self ..
      have hpos := unl_pos hi
      obtain ⟨f', rfl⟩ : ∃ f', f = f' + 1 := ⟨f - 1, by omega⟩
      refine ⟨fun hr => (by rw [hr] at hi; cases hi), fun q hq => two hc1 hc2 q (by rw [hfk]; exact hq) hq a w h f' rfl⟩
    · simp only [chkF, Bool.and_eq_true] at hc
      exact two hc.1 hc.2 q hq hqr a w h f' hff
/-- .. with calls put off beneath -/
theorem jd_planF {Q : Exit → Act → World → Prop} {id : Nat} {l : List Oper} {dd : List Deferred} [hm : Mixed P] (p : Pl) (hq : (chkF l.toArray true (Array.replicate l.length false) p) = true)
    (h : J n fm L (runT P (some fun ch => wd dd (Q (.panic ch))) l.toArray (wd dd (Q .normal)) p)) : J n fm L (wd dd ((Code.region id l.toArray true).wp P Q)) := by
  intro a w hr hs
  refine wp_region_any hm.mixed (runA_wpAnyX (EE := some fun ch => Q (.panic ch)) rfl _ _ _ _ (runA_wd dd _ _ a w.drew ?_))
  have hsz : (Array.replicate l.toArray.size false).size = l.toArray.size := by simp
  exact (runA_of_runTF p l.toArray.size (Array.replicate l.toArray.size false) hsz (Nat.le_trans (List.length_filter_le _ _) (by simp))).1 (by simpa using hq) a w.drew (h a w.drew hr hs.drew)
theorem jd_invF {Q : Exit → Act → World → Prop} {id : Nat} {l : List Oper} {dd : List Deferred} [hm : Mixed P] (ds : List Nat) (dp : List (List Nat)) (q : Pl) (fm0 : Fm) (Φ : Nat → (Nat → Value) → Value → Prop) (j0 : Nat) (Hp : Value → List HP)
    (hq : (edgeB l.toArray && invB l ds dp && Nat.blt j0 ds.length && Nat.ble ds.length l.length && chkF l.toArray true (lstT l.length ds.length) q) = true) (hsub : Sub fm0 fm) (hd0 : disjB fm0 ds = true)
    (hob : oblAll P (some fun ch => wd dd (Q (.panic ch))) n l.toArray fm0 L ds dp Φ j0 Hp (List.range ds.length) l)
    (hend : ∀ x, factsL dp Φ x (List.range ds.length) → J n (depF ds x (List.range ds.length) ++ fm0) (Hp (x j0) ++ L) (runT P (some fun ch => wd dd (Q (.panic ch))) l.toArray (wd dd (Q .normal)) q)) : J n fm L (wd dd ((Code.region id l.toArray true).wp P Q)) := by
  intro a w hr hs
  simp only [Bool.and_eq_true] at hq
  obtain ⟨⟨⟨⟨h2, h3⟩, h4⟩, h5⟩, h6⟩ := hq
  have hj0 := Nat.blt_eq.mp h4
  have hlen := Nat.le_of_ble_eq_true h5
  refine wp_region_any hm.mixed (runA_wpAnyX (EE := some fun ch => Q (.panic ch)) rfl _ _ _ _ (runA_wd dd _ _ a w.drew ?_))
  have hsz : (Array.replicate l.toArray.size false).size = l.length := by simp
  refine runA_inv h3 hd0 h2 hj0 hlen hob (fun f listed a w hs hcl hfl hun hinv => ?_) _ _ a w.drew hsz (fun i oi _ hl => ?_) (fun k _ _ => getD_rep_false _ _) (Nat.le_trans (List.length_filter_le _ _) (by simp)) (invD_start hsub hr hs.drew)
  · have hl : listed = lstT l.length ds.length := lstT_of hs hfl
    subst hl
    exact (runA_of_runTF q f _ (by simpa using hs) hun).1 h6 a w (invD_end hj0 (fun k hk => by rw [hfl k (by omega)]; exact decide_eq_true hk) hinv hend)
  · rw [getD_rep_false] at hl; cases hl
/-- an operation's end -/
theorem j_endI {t : Nat} {Ψ : Value → Prop} {LL : Value → List HP} (v : Value) (hv : look fm t = some v) (hΨ : Ψ v) (hL : Pk L (LL v)) : J n fm L (endI n t Ψ LL) :=
  fun a w hr hs => ⟨v, ⟨hr.defers, hr.size, fun i u hi => by
    rw [look_cons] at hi
    split at hi
    · rename_i h; subst h; obtain rfl := Option.some.inj hi; exact hr.slot t v hv
    · simp [look] at hi⟩, hΨ, hs.pk hL⟩
end
end Go.Proofs.Ytnmfpgfgjjmfhaa
