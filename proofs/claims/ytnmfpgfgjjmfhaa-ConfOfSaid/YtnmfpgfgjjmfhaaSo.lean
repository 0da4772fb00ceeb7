/- Orders that meet again: plans put one behind the other. -/
import Derived.Test.YtnmfpgfgjjmfhaaSv
set_option linter.unusedVariables false
set_option linter.unusedSimpArgs false
namespace Go.Proofs.Ytnmfpgfgjjmfhaa
open Go

def plApp : Pl → Pl → Pl
  | .done, u => u
  | .take i t, u => .take i (plApp t u)
  | .fork i t s, u => .fork i (plApp t u) (plApp s u)
  | .stop, _ => .stop

section
variable {P : Program} {EE : EX} {n : Nat} {fm : Fm} {L : List HP} {ops : Array Oper} {K : Act → World → Prop}

theorem runT_app (q : Pl) : ∀ (p : Pl), runT P EE ops K (plApp p q) = runT P EE ops (runT P EE ops K q) p
  | .done => rfl
  | .take i t => by funext a w; show stepI P EE ops i (runT P EE ops K (plApp t q)) a w = stepI P EE ops i (runT P EE ops (runT P EE ops K q) t) a w; rw [runT_app q t]
  | .fork i t s => by
    funext a w
    show (stepI P EE ops i (runT P EE ops K (plApp t q)) a w ∧ runT P EE ops K (plApp s q) a w) = (stepI P EE ops i (runT P EE ops (runT P EE ops K q) t) a w ∧ runT P EE ops (runT P EE ops K q) s a w)
    rw [runT_app q t, runT_app q s]
  | .stop => by funext a w; rfl

theorem stepI_mono {i : Nat} {K K' : Act → World → Prop} (hk : ∀ a w, K a w → K' a w) {a : Act} {w : World} (h : stepI P EE ops i K a w) : stepI P EE ops i K' a w := by
  cases hi : ops[i]? with
  | none => unfold stepI at h; rw [hi] at h; exact h.elim
  | some o => rw [stepI_eq hi] at h ⊢; exact stepS_mono hk h
theorem runT_mono {K K' : Act → World → Prop} (hk : ∀ a w, K a w → K' a w) : ∀ (p : Pl) {a : Act} {w : World}, runT P EE ops K p a w → runT P EE ops K' p a w
  | .done, a, w, h => hk a w h
  | .take i t, a, w, h => stepI_mono (fun a' w' h' => runT_mono hk t h') h
  | .fork i t s, a, w, h => ⟨stepI_mono (fun a' w' h' => runT_mono hk t h') h.1, runT_mono hk s h.2⟩
  | .stop, _, _, _ => trivial

def cutK {X : Type} (n : Nat) (fc : X → Fm) (Lc : X → List HP) : Act → World → Prop := fun a w => ∃ x, Rep n (fc x) a ∧ Sat (Lc x) w
/-- orders that meet again: what is known there, told -/
theorem j_app {X : Type} (fc : X → Fm) (Lc : X → List HP) {p q : Pl} (h : J n fm L (runT P EE ops (cutK n fc Lc) p)) (k : ∀ x, J n (fc x) (Lc x) (runT P EE ops K q)) : J n fm L (runT P EE ops K (plApp p q)) := by
  rw [runT_app]
  exact fun a w hr hs => runT_mono (fun a' w' ⟨x, h1, h2⟩ => k x a' w' h1 h2) p (h a w hr hs)
theorem j_appE {X : Type} {fc : X → Fm} {Lc : X → List HP} (x : X) (hf : Sub (fc x) fm) (hL : Pk L (Lc x)) : J n fm L (cutK n fc Lc) :=
  fun a w hr hs => ⟨x, hr.sub hf, hs.pk hL⟩
end

/-! ### plans checked by tables of bits -/
def lst (n d : Nat) : Array Bool := ((List.range n).map fun i => d.testBit i).toArray
theorem lst_size (n d : Nat) : (lst n d).size = n := by simp [lst]
theorem lst_getD {n d i : Nat} {b : Bool} (h : i < n) : (lst n d).getD i b = d.testBit i := by
  rw [Array.getD_eq_getD_getElem?]
  simp [lst, h]
theorem lst_getD_ge {n d i : Nat} {b : Bool} (h : n ≤ i) : (lst n d).getD i b = b := by
  rw [Array.getD_eq_getD_getElem?, Array.getElem?_eq_none (by rw [lst_size]; exact h)]; rfl
theorem lst_set {n d i : Nat} (h : i < n) : (lst n d).setIfInBounds i true = lst n (d ||| 2 ^ i) := by
  apply Array.ext
  · simp [lst]
  · intro j h1 h2
    have hj : j < n := by simpa [lst] using h2
    rw [Array.getElem_setIfInBounds (by rw [lst_size]; exact hj)]
    by_cases hij : i = j
    · subst hij; simp [lst]
    · rw [if_neg hij]
      simp [lst, Nat.testBit_or, Nat.testBit_two_pow, hij]
theorem rep_lst (n : Nat) : Array.replicate n false = lst n 0 := by
  apply Array.ext
  · simp [lst]
  · intro j h1 h2; simp [lst]

/-- the bits of the edges that bind -/
def edgeMask (es : Array Edge) : Nat := es.toList.foldl (fun s e => if Region.binds .any e then s ||| 2 ^ e.on else s) 0
theorem edgeMask_fold : ∀ (es : List Edge) (s k : Nat), (es.foldl (fun s e => if Region.binds .any e then s ||| 2 ^ e.on else s) s).testBit k = (s.testBit k || es.any fun e => Region.binds .any e && e.on == k)
  | [], s, k => by simp
  | e :: es, s, k => by
    rw [List.foldl_cons, edgeMask_fold es]
    by_cases hb : Region.binds .any e = true
    · simp [hb, Nat.testBit_or, Nat.testBit_two_pow, Bool.or_assoc, beq_iff_eq, decide_eq_true_eq]
      congr 1
    · simp [hb]
theorem edgeMask_bit (es : Array Edge) (k : Nat) : (edgeMask es).testBit k = es.toList.any fun e => Region.binds .any e && e.on == k := by
  unfold edgeMask; rw [edgeMask_fold]; simp

def tabsB (P : Program) (l : List Oper) (bf nd ind : List Nat) : Bool :=
  (Region.before l.toArray).toList == bf && l.map (fun o => edgeMask o.after) == nd &&
  ((List.range l.length).all fun i => (List.range l.length).all fun j => !((ind.getD i 0).testBit j) || match l[i]?, l[j]? with
    | some oi, some oj => indep P l.toArray oi oj
    | _, _ => false)
def edgeM (l : List Oper) (bf : List Nat) : Bool :=
  (List.range l.length).all fun j => match l[j]? with
    | none => false
    | some oj => (oj.after.all fun e => !Region.binds .any e || decide (e.on < j)) && (List.range l.length).all fun i => !(bf.getD j 0).testBit i || (oj.after.any fun e => Region.binds .any e && (e.on == i || (bf.getD e.on 0).testBit i))
def readyM (n : Nat) (nd : List Nat) (d : Nat) : List Nat := (List.range n).filter fun i => !d.testBit i && (nd.getD i 0 &&& d == nd.getD i 0)
def freeM (n : Nat) (bf ind : List Nat) (d i : Nat) : Bool := (List.range n).all fun j => j == i || d.testBit j || (bf.getD j 0).testBit i || (ind.getD i 0).testBit j
/-- d is counted before it is handed on (the kernel would hand it on as a sum) -/
def forceN {α : Type} (d : Nat) (f : Nat → α) : α := match d with
  | 0 => f 0
  | k + 1 => f (k + 1)
theorem forceN_eq {α : Type} (d : Nat) (f : Nat → α) : forceN d f = f d := by cases d <;> rfl
def chkM (n : Nat) (bf nd ind : List Nat) : Bool → Nat → Pl → Bool
  | true, d, .done => (readyM n nd d).isEmpty
  | true, d, .take i t => (readyM n nd d).contains i && freeM n bf ind d i && forceN (d ||| 2 ^ i) (fun d' => chkM n bf nd ind true d' t)
  | true, d, .fork i t u => (forksT (.fork i t u) == readyM n nd d) && forceN (d ||| 2 ^ i) (fun d' => chkM n bf nd ind true d' t) && chkM n bf nd ind false d u && decide (i < n)
  | true, _, .stop => false
  | false, d, .fork i t u => forceN (d ||| 2 ^ i) (fun d' => chkM n bf nd ind true d' t) && chkM n bf nd ind false d u && decide (i < n)
  | false, _, .stop => true
  | false, _, _ => false

section
variable {P : Program} {l : List Oper} {bf nd ind : List Nat}
theorem bef_tab (ht : tabsB P l bf nd ind = true) (j : Nat) : (Region.before l.toArray).getD j 0 = bf.getD j 0 := by
  unfold tabsB at ht
  simp only [Bool.and_eq_true, beq_iff_eq] at ht
  rw [← ht.1.1, Array.getD_eq_getD_getElem?, List.getD_eq_getElem?_getD, Array.getElem?_toList]
theorem edgeM_sound (ht : tabsB P l bf nd ind = true) (h : edgeM l bf = true) : edgeB l.toArray = true := by
  unfold edgeB
  simp only [bef_tab ht, List.size_toArray, List.getElem?_toArray]
  exact h
theorem ready_tab (ht : tabsB P l bf nd ind = true) (he : edgeM l bf = true) (d : Nat) : Region.ready .any l.toArray (lst l.length d) = readyM l.length nd d := by
  unfold Region.ready readyM
  rw [List.size_toArray]
  refine List.filter_congr fun i hi => ?_
  have hi := List.mem_range.1 hi
  have hnd : nd.getD i 0 = edgeMask l[i].after := by
    unfold tabsB at ht
    simp only [Bool.and_eq_true, beq_iff_eq] at ht
    rw [← ht.1.2, List.getD_eq_getElem?_getD]
    simp [hi]
  have hed : ∀ e ∈ l[i].after, Region.binds .any e = true → e.on < i := by
    unfold edgeM at he
    have := List.all_eq_true.1 he i (List.mem_range.2 hi)
    simp only [List.getElem?_eq_getElem hi, Bool.and_eq_true, Array.all_eq_true_iff_forall_mem, Bool.or_eq_true, Bool.not_eq_true', decide_eq_true_eq] at this
    intro e hm hb
    rcases this.1 e hm with h | h
    · rw [hb] at h; cases h
    · exact h
  rw [lst_getD hi, List.getElem?_toArray, List.getElem?_eq_getElem hi, hnd]
  simp only [Option.map_some, Option.getD_some]
  congr 1
  rw [Bool.eq_iff_iff]
  simp only [Array.all_eq_true_iff_forall_mem, Bool.or_eq_true, Bool.not_eq_true', beq_iff_eq]
  constructor
  · intro h
    apply Nat.eq_of_testBit_eq
    intro k
    rw [Nat.testBit_and]
    by_cases hk : (edgeMask l[i].after).testBit k = true
    · have hk' := hk
      rw [edgeMask_bit, List.any_eq_true] at hk'
      obtain ⟨e, hm, h2⟩ := hk'
      simp only [Bool.and_eq_true, beq_iff_eq] at h2
      have hm' : e ∈ l[i].after := Array.mem_toList_iff.1 hm
      rcases h e hm' with h3 | h3
      · rw [h2.1] at h3; cases h3
      · have := hed e hm' h2.1
        rw [lst_getD (by omega), h2.2] at h3
        rw [h3, Bool.and_true]
    · simp only [Bool.not_eq_true] at hk
      rw [hk]; rfl
  · intro h e hm
    by_cases hb : Region.binds .any e = true
    · right
      have hon := hed e hm hb
      rw [lst_getD (by omega)]
      have h1 : (edgeMask l[i].after).testBit e.on = true := by
        rw [edgeMask_bit, List.any_eq_true]
        exact ⟨e, Array.mem_toList_iff.2 hm, by simp [hb]⟩
      have h2 := congrArg (fun m => Nat.testBit m e.on) h
      simp only [Nat.testBit_and, h1, Bool.true_and] at h2
      exact h2
    · left; simpa using hb
theorem free_tab (ht : tabsB P l bf nd ind = true) {d i : Nat} (hi : i < l.length) (h : freeM l.length bf ind d i = true) : freeT P l.toArray (lst l.length d) i = true := by
  have ht0 := ht
  unfold tabsB at ht
  simp only [Bool.and_eq_true, beq_iff_eq] at ht
  unfold freeT
  simp only [List.getElem?_toArray, List.getElem?_eq_getElem hi, List.size_toArray]
  rw [List.all_eq_true]
  intro j hj
  have hjl := List.mem_range.1 hj
  have h1 := List.all_eq_true.1 h j hj
  rw [lst_getD hjl, bef_tab ht0]
  simp only [Bool.or_eq_true] at h1 ⊢
  rcases h1 with ((h1 | h1) | h1) | h1
  · exact .inl (.inl h1)
  · exact .inl (.inr h1)
  · right; rw [List.getElem?_eq_getElem hjl]; rw [Bool.or_eq_true]; exact .inl h1
  · right
    rw [List.getElem?_eq_getElem hjl]
    have h2 := List.all_eq_true.1 (List.all_eq_true.1 ht.2 i (List.mem_range.2 hi)) j hj
    rw [h1, List.getElem?_eq_getElem hi, List.getElem?_eq_getElem hjl] at h2
    simp only [Bool.not_true, Bool.false_or] at h2
    simp [h2]

theorem chkM_sound (ht : tabsB P l bf nd ind = true) (he : edgeM l bf = true) : ∀ (p : Pl) (b : Bool) (d : Nat), chkM l.length bf nd ind b d p = true → chkT P l.toArray b (lst l.length d) p = true
  | .done, true, d, h => by simp only [chkM, chkT] at h ⊢; rw [ready_tab ht he]; exact h
  | .done, false, d, h => by simp [chkM] at h
  | .stop, true, d, h => by simp [chkM] at h
  | .stop, false, d, h => by simp [chkT]
  | .take i t, false, d, h => by simp [chkM] at h
  | .take i t, true, d, h => by
    simp only [chkM, forceN_eq, chkT, Bool.and_eq_true] at h ⊢
    have hi : i < l.length := by
      have := h.1.1
      rw [List.contains_iff_mem] at this
      exact List.mem_range.1 (List.mem_filter.1 this).1
    rw [ready_tab ht he, lst_set hi]
    exact ⟨⟨h.1.1, free_tab ht hi h.1.2⟩, chkM_sound ht he t true _ h.2⟩
  | .fork i t u, true, d, h => by
    simp only [chkM, forceN_eq, chkT, Bool.and_eq_true, decide_eq_true_eq] at h ⊢
    rw [ready_tab ht he, lst_set h.2]
    exact ⟨⟨h.1.1.1, chkM_sound ht he t true _ h.1.1.2⟩, chkM_sound ht he u false _ h.1.2⟩
  | .fork i t u, false, d, h => by
    simp only [chkM, forceN_eq, chkT, Bool.and_eq_true, decide_eq_true_eq] at h ⊢
    rw [lst_set h.2]
    exact ⟨chkM_sound ht he t true _ h.1.1, chkM_sound ht he u false _ h.1.2⟩
end

section
variable {P : Program} {n : Nat} {fm : Fm} {L : List HP} {Q : Exit → Act → World → Prop}
/-- a region by a plan that is checked by tables -/
theorem j_planM {id : Nat} {l : List Oper} [hm : Mixed P] (bf nd ind : List Nat) (p : Pl) (hq : (Region.noSelect l.toArray && tabsB P l bf nd ind && edgeM l bf && chkM l.length bf nd ind true 0 p) = true) (h : J n fm L (runT P none l.toArray (Q .normal) p)) : J n fm L ((Code.region id l.toArray true).wp P Q) := by
  simp only [Bool.and_eq_true] at hq
  refine j_plan p ?_ h
  rw [rep_lst, hq.1.1.1, edgeM_sound hq.1.1.2 hq.1.2, chkM_sound hq.1.1.2 hq.1.2 p true 0 hq.2]
  rfl
end
end Go.Proofs.Ytnmfpgfgjjmfhaa
