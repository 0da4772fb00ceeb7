/- Calls that may panic, and regions of several orders with them. -/
import Derived.Test.YtnmfpgfgjjmfhaaSg
import Derived.Test.YtnmfpgfgjjmfhaaSo
set_option linter.unusedVariables false
set_option linter.unusedSimpArgs false
namespace Go.Proofs.Ytnmfpgfgjjmfhaa
open Go

section
variable {P : Program} {EE : EX} {ops : Array Oper}

theorem put_defers (a : Act) (d : Option Tmp) (v : Value) (l : List Deferred) : ({ (a.put d v) with defers := l } : Act) = ({ a with defers := l } : Act).put d v := by cases d <;> rfl
theorem put_defers' (a : Act) (d : Option Tmp) (v : Value) : (a.put d v).defers = a.defers := by cases d <;> rfl
theorem with_eval (a : Act) (l : List Deferred) : ({ a with defers := l } : Act).eval = a.eval := by funext x; cases x <;> rfl

theorem afterW_map {o : Oper} {a a' : Act} {K K' : Act → World → Prop} (h1 : ∀ v w', K (a.put o.dst v) w' → K' (a'.put o.dst v) w')
    (h2 : ∀ d w', K ({ a with defers := d :: a.defers }.put o.dst undef) w' → K' ({ a' with defers := d :: a'.defers }.put o.dst undef) w')
    (h3 : ∀ E, EE = some E → ∀ ch w', E ch a w' → E ch a' w') {r : Result Next} (hh : afterW P EE o a K r) : afterW P EE o a' K' r := by
  cases EE with
  | none =>
    simp only [afterW] at hh ⊢
    cases r with
    | ok x w' =>
      cases x <;> simp only [afterN] at hh ⊢ <;> first
        | exact h1 _ _ hh
        | exact Calls.mono hh (fun e w'' ⟨v, he, hk⟩ => ⟨v, he, h1 _ _ hk⟩)
    | halt x w' => exact hh
  | some E =>
    simp only [afterW] at hh ⊢
    cases r with
    | ok x w' =>
      cases x <;> simp only [afterE] at hh ⊢ <;> first
        | exact h1 _ _ hh
        | exact h2 _ _ hh
        | exact Calls.mono hh (fun e w'' hk => hk.elim (fun ⟨v, he, hk⟩ => .inl ⟨v, he, h1 _ _ hk⟩) (fun ⟨ch, he, hk⟩ => .inr ⟨ch, he, h3 E rfl _ _ hk⟩))
    | halt x w' =>
      cases x <;> simp only [afterE] at hh ⊢ <;> first
        | exact h3 E rfl _ _ hh
        | exact hh.elim

/-- panics that don't look at the frame's slots -/
def Blind (EE : EX) : Prop := ∀ E, EE = some E → ∀ ch (a : Act) d v w, E ch (a.put d v) w ↔ E ch a w

theorem stepS_commX {x y : Oper} (hB : Blind EE) (hxw : cls P x.op ≠ .w) (hx : ∀ cs b, x.op ≠ .select cs b) (hy : ∀ cs b, y.op ≠ .select cs b) (hi : indep P ops x y = true) {K : Act → World → Prop} {a : Act} {w : World}
    (h : stepS P EE ops x (stepS P EE ops y K) a w) : stepS P EE ops y (stepS P EE ops x K) a w := by
  unfold indep at hi
  rw [Bool.and_eq_true] at hi
  obtain ⟨h1, h2, h3⟩ := Oper.apart_spec hi.1
  have hm := hi.2
  have ey : ∀ (b : Act) u, execOp (b.put x.dst u).eval y = execOp b.eval y := fun b u => execOp_put y hy b x.dst u h1
  have ex : ∀ (b : Act) u, execOp (b.put y.dst u).eval x = execOp b.eval x := fun b u => execOp_put x hx b y.dst u h3
  have wy : ∀ (b : Act) u, Region.wanted y (yielded ops (b.put x.dst u).tmps) = Region.wanted y (yielded ops b.tmps) := fun b u => wanted_put y b x.dst u h1
  have wx : ∀ (b : Act) u, Region.wanted x (yielded ops (b.put y.dst u).tmps) = Region.wanted x (yielded ops b.tmps) := fun b u => wanted_put x b y.dst u h3
  have hc : ∀ (b : Act) u v, (b.put x.dst u).put y.dst v = (b.put y.dst v).put x.dst u := fun b u v => Act.put_comm b u v h2
  have back : ∀ (u : Value) (w1 : World), stepS P EE ops y K (a.put x.dst u) w1 → stepS P EE ops y (fun a' w' => K (a'.put x.dst u) w') a w1 := by
    intro u w1 hh
    unfold stepS at hh ⊢
    rw [wy] at hh
    split
    · rename_i hw
      rw [if_pos hw] at hh
      generalize cls P y.op = m at hh ⊢
      cases m with
      | p => obtain ⟨v, k1, k2⟩ := hh; rw [ey] at k1; rw [hc] at k2; exact ⟨v, k1, k2⟩
      | r => obtain ⟨v, k1, k2⟩ := hh; rw [ey] at k1; rw [hc] at k2; exact ⟨v, k1, k2⟩
      | n => obtain ⟨b, f, k1, k2⟩ := hh; rw [ey] at k1; rw [hc] at k2; exact ⟨b, f, k1, k2⟩
      | w =>
        simp only [doS] at hh ⊢
        rw [ey] at hh
        refine afterW_map (fun v w' hk => ?_) (fun d w' hk => ?_) (fun E hE ch w' hk => ?_) hh
        · rw [hc] at hk; exact hk
        · rw [put_defers', put_defers, hc] at hk; exact hk
        · exact (hB E hE _ _ _ _ _).1 hk
    · rename_i hw
      rw [if_neg hw] at hh
      rw [hc] at hh
      exact hh
  by_cases hwx : Region.wanted x (yielded ops a.tmps) = true
  case neg =>
    rw [stepS_neg hwx] at h
    have hb := back undef w h
    unfold stepS at hb ⊢
    split
    · rename_i hw
      rw [if_pos hw] at hb
      generalize cls P y.op = m at hb ⊢
      cases m with
      | p => obtain ⟨v, k1, k2⟩ := hb; refine ⟨v, k1, ?_⟩; show stepS P EE ops x K (a.put y.dst v) w; rw [stepS_neg (by rw [wx]; exact hwx)]; exact k2
      | n => obtain ⟨bo, f, k1, k2⟩ := hb; refine ⟨bo, f, k1, ?_⟩; show stepS P EE ops x K (a.put y.dst (f w.heap.size)) (w.alloc bo); rw [stepS_neg (by rw [wx]; exact hwx)]; exact k2
      | r => obtain ⟨v, k1, k2⟩ := hb; refine ⟨v, k1, ?_⟩; show stepS P EE ops x K (a.put y.dst v) w; rw [stepS_neg (by rw [wx]; exact hwx)]; exact k2
      | w =>
        simp only [doS] at hb ⊢
        refine afterW_map (fun v w' hk => ?_) (fun d w' hk => ?_) (fun E hE ch w' hk => hk) hb
        · show stepS P EE ops x K (a.put y.dst v) w'; rw [stepS_neg (by rw [wx]; exact hwx)]; exact hk
        · show stepS P EE ops x K _ w'; rw [stepS_neg (by rw [wx]; exact hwx)]; exact hk
    · rename_i hw
      rw [if_neg hw] at hb
      show stepS P EE ops x K (a.put y.dst undef) w
      rw [stepS_neg (by rw [wx]; exact hwx)]
      exact hb
  case pos =>
    rw [stepS_pos hwx] at h
    generalize hmx : cls P x.op = mx at h hm hxw
    generalize hmy : cls P y.op = my at hm
    cases mx with
    | w => exact absurd rfl hxw
    | p =>
      obtain ⟨u, k1, k2⟩ := h
      have hb := back u w k2
      have fin : ∀ (b : Act) (w1 : World), execOp b.eval x = execOp a.eval x → Region.wanted x (yielded ops b.tmps) = true → K (b.put x.dst u) w1 → stepS P EE ops x K b w1 := by
        intro b w1 e1 e2 hk
        unfold stepS
        rw [if_pos e2, hmx]
        exact ⟨u, fun w2 => by rw [e1]; exact k1 w2, hk⟩
      unfold stepS at hb
      unfold stepS
      split
      · rename_i hw
        rw [if_pos hw] at hb
        generalize cls P y.op = m at hb ⊢
        cases m with
        | p => obtain ⟨v, j1, j2⟩ := hb; exact ⟨v, j1, fin _ _ (ex a v) ((wx a v).trans hwx) j2⟩
        | r => obtain ⟨v, j1, j2⟩ := hb; exact ⟨v, j1, fin _ _ (ex a v) ((wx a v).trans hwx) j2⟩
        | n => obtain ⟨bo, f, j1, j2⟩ := hb; exact ⟨bo, f, j1, fin _ _ (ex a _) ((wx a _).trans hwx) j2⟩
        | w =>
          simp only [doS] at hb ⊢
          refine afterW_map (fun v w' hk => ?_) (fun d w' hk => ?_) (fun E hE ch w' hk => hk) hb
          · exact fin _ _ (ex a _) ((wx a _).trans hwx) hk
          · exact fin _ _ (by rw [ex, with_eval]) ((wx _ _).trans hwx) hk
      · rename_i hw
        rw [if_neg hw] at hb
        exact fin _ _ (ex a _) ((wx a _).trans hwx) hb
    | r =>
      obtain ⟨u, k1, k2⟩ := h
      have hb := back u w k2
      have fin : ∀ (b : Act) (w1 : World), Ext w w1 → execOp b.eval x = execOp a.eval x → Region.wanted x (yielded ops b.tmps) = true → K (b.put x.dst u) w1 → stepS P EE ops x K b w1 := by
        intro b w1 e0 e1 e2 hk
        unfold stepS
        rw [if_pos e2, hmx]
        exact ⟨u, fun w2 h2 => by rw [e1]; exact k1 w2 ⟨fun q hq => (h2.heap q (Nat.lt_of_lt_of_le hq e0.size)).trans (e0.heap q hq), Nat.le_trans e0.size h2.size, e0.kept.trans h2.kept⟩, hk⟩
      unfold stepS at hb
      unfold stepS
      split
      · rename_i hw
        rw [if_pos hw, hmy] at hb
        rw [hmy]
        cases my with
        | p => obtain ⟨v, j1, j2⟩ := hb; exact ⟨v, j1, fin _ _ (Ext.refl w) (ex a v) ((wx a v).trans hwx) j2⟩
        | r => obtain ⟨v, j1, j2⟩ := hb; exact ⟨v, j1, fin _ _ (Ext.refl w) (ex a v) ((wx a v).trans hwx) j2⟩
        | n => obtain ⟨bo, f, j1, j2⟩ := hb; exact ⟨bo, f, j1, fin _ _ ((Ext.refl w).alloc bo) (ex a _) ((wx a _).trans hwx) j2⟩
        | w => simp [mdOk] at hm
      · rename_i hw
        rw [if_neg hw] at hb
        exact fin _ _ (Ext.refl w) (ex a _) ((wx a _).trans hwx) hb
    | n =>
      have hp : my = .p := by cases my <;> simp [mdOk] at hm <;> rfl
      subst hp
      obtain ⟨bo, f, k1, k2⟩ := h
      have hb := back _ _ k2
      by_cases hwy : Region.wanted y (yielded ops a.tmps) = true
      case neg =>
        rw [stepS_neg hwy] at hb
        rw [stepS_neg hwy, stepS_pos (by rw [wx]; exact hwx), hmx]
        exact ⟨bo, f, fun w' => by rw [ex]; exact k1 w', hb⟩
      case pos =>
        rw [stepS_pos hwy, hmy] at hb
        rw [stepS_pos hwy, hmy]
        obtain ⟨v, j1, j2⟩ := hb
        refine ⟨v, j1, ?_⟩
        show stepS P EE ops x K (a.put y.dst v) w
        rw [stepS_pos (by rw [wx]; exact hwx), hmx]
        exact ⟨bo, f, fun w' => by rw [ex]; exact k1 w', j2⟩

theorem runA_wpAnyX {Q : Exit → Act → World → Prop} (hQ : exOk Q EE) : ∀ (f : Nat) (listed : Array Bool) (a : Act) (w : World), runA P EE ops (Q .normal) f listed a w → wpAny P .any ops Q f listed a w
  | 0, _, _, _, h => h
  | f + 1, listed, a, w, h => ⟨h.1, fun i hi => by
    have h1 := h.2 i hi
    obtain ⟨_, o, ho, _⟩ := mem_ready.1 hi
    rw [stepI_eq ho] at h1
    exact stepS_wpOp hQ ho (stepS_mono (fun a w hk => runA_wpAnyX hQ f _ a w hk) h1)⟩

/-- what may be taken ahead of all that doesn't wait for it -/
def freeX (P : Program) (ops : Array Oper) (listed : Array Bool) (i : Nat) : Bool := match ops[i]? with
  | none => false
  | some oi => (List.range ops.size).all fun j => j == i || listed.getD j true || match ops[j]? with
    | some oj => ((Region.before ops).getD j 0).testBit i || (indep P ops oi oj && decide (cls P oi.op ≠ .w))
    | none => false
def chkX (P : Program) (ops : Array Oper) : Bool → Array Bool → Pl → Bool
  | true, listed, .done => (Region.ready .any ops listed).isEmpty
  | true, listed, .take i t => (Region.ready .any ops listed).contains i && freeX P ops listed i && chkX P ops true (listed.setIfInBounds i true) t
  | true, listed, .fork i t u => (forksT (.fork i t u) == Region.ready .any ops listed) && chkX P ops true (listed.setIfInBounds i true) t && chkX P ops false listed u
  | true, _, .stop => false
  | false, listed, .fork i t u => chkX P ops true (listed.setIfInBounds i true) t && chkX P ops false listed u
  | false, _, .stop => true
  | false, _, _ => false

def unl (ops : Array Oper) (listed : Array Bool) : Nat := ((List.range ops.size).filter fun k => !listed.getD k true).length
theorem unl_set {listed : Array Bool} {i : Nat} (hsz : listed.size = ops.size) (hi : i ∈ Region.ready .any ops listed) : unl ops (listed.setIfInBounds i true) < unl ops listed := by
  obtain ⟨h0, oi, ho, _⟩ := mem_ready.1 hi
  have hlt := (Array.getElem?_eq_some_iff.1 ho).1
  have hlt2 : i < listed.size := by omega
  unfold unl
  rw [← List.countP_eq_length_filter, ← List.countP_eq_length_filter]
  have hmem : i ∈ List.range ops.size := List.mem_range.2 hlt
  obtain ⟨s, t, hst⟩ := List.append_of_mem hmem
  rw [hst]
  simp only [List.countP_append, List.countP_cons]
  have e1 : (!(listed.setIfInBounds i true).getD i true) = false := by simp [hlt2]
  have e2 : (!listed.getD i true) = true := by rw [h0]; rfl
  have le1 : ∀ l : List Nat, List.countP (fun k => !(listed.setIfInBounds i true).getD k true) l ≤ List.countP (fun k => !listed.getD k true) l := by
    intro l
    refine List.countP_mono_left fun k _ hk => ?_
    by_cases hki : k = i
    · subst hki; rw [e1] at hk; cases hk
    · rw [getD_set_ne true (Ne.symm hki)] at hk; exact hk
  have := le1 s
  have := le1 t
  rw [e1, e2]
  simp only [Bool.false_eq_true, if_false, if_true]
  omega
theorem unl_pos {listed : Array Bool} {i : Nat} (hi : i ∈ Region.ready .any ops listed) : 0 < unl ops listed := by
  obtain ⟨h0, oi, ho, _⟩ := mem_ready.1 hi
  have : i ∈ ((List.range ops.size).filter fun k => !listed.getD k true) := by
    rw [List.mem_filter, List.mem_range]
    exact ⟨(Array.getElem?_eq_some_iff.1 ho).1, by simp [h0]⟩
  exact List.length_pos_of_mem this

theorem runA_takeX {K : Act → World → Prop} (hB : Blind EE) (hs : Region.noSelect ops = true) (he : edgeB ops = true) {i : Nat} {oi : Oper} (ho : ops[i]? = some oi) : ∀ (f : Nat) (listed : Array Bool) (a : Act) (w : World), listed.size = ops.size →
    (∀ i oi, ops[i]? = some oi → listed.getD i false = true → ∀ e ∈ oi.after, Region.binds .any e = true → listed.getD e.on false = true) → unl ops listed ≤ f + 1 →
    i ∈ Region.ready .any ops listed → freeX P ops listed i = true → stepS P EE ops oi (runA P EE ops K f (listed.setIfInBounds i true)) a w → runA P EE ops K (f + 1) listed a w := by
  intro f
  induction f with
  | zero =>
    intro listed a w hsz closed hun hi hfree h
    refine ⟨fun hr => (by rw [hr] at hi; cases hi), fun j hj => ?_⟩
    by_cases hji : j = i
    · subst hji; rw [stepI_eq ho]; exact h
    · have h1 := unl_set hsz hi
      have h2 := unl_pos (ready_mono hj hji)
      omega
  | succ f ih =>
    intro listed a w hsz closed hun hi hfree h
    refine ⟨fun hr => (by rw [hr] at hi; cases hi), fun j hj => ?_⟩
    by_cases hji : j = i
    · subst hji; rw [stepI_eq ho]; exact h
    · obtain ⟨hjun, oj, hoj, hallj⟩ := mem_ready.1 hj
      have hjs := (Array.getElem?_eq_some_iff.1 hoj).1
      have hind : indep P ops oi oj = true ∧ cls P oi.op ≠ .w := by
        have h1 := hfree
        simp only [freeX, ho, List.all_eq_true, List.mem_range] at h1
        have h2 := h1 j hjs
        simp only [hoj, hjun, Bool.or_false, Bool.or_eq_true, beq_iff_eq, hji, false_or, Bool.and_eq_true, decide_eq_true_eq] at h2
        rcases h2 with h2 | h2
        · exact absurd hj (waits_not_ready he hsz closed j i h2 (Array.getElem?_eq_some_iff.1 ho).1 (mem_ready.1 hi).1)
        · exact h2
      rw [stepI_eq hoj]
      have h2 : stepS P EE ops oi (stepS P EE ops oj (runA P EE ops K f ((listed.setIfInBounds i true).setIfInBounds j true))) a w :=
        stepS_mono (fun a' w' hk => by
          have := hk.2 j (ready_mono hj hji)
          rw [stepI_eq hoj] at this
          exact this) h
      have h3 := stepS_commX hB hind.2 (fun cs b => Region.noSelect_spec hs i oi cs b ho) (fun cs b => Region.noSelect_spec hs j oj cs b hoj) hind.1 h2
      refine stepS_mono (fun a' w' hk => ih (listed.setIfInBounds j true) a' w' (by simp [hsz]) (closed_set hj closed) (by have := unl_set hsz hj; omega) (ready_mono hi (Ne.symm hji)) ?_ ?_) h3
      · have h1 := hfree
        simp only [freeX, ho, List.all_eq_true, List.mem_range] at h1 ⊢
        intro q hq
        have h2 := h1 q hq
        by_cases hqj : q = j
        · subst hqj
          have : q < listed.size := by omega
          simp [this]
        · rw [getD_set_ne true (Ne.symm hqj)]; exact h2
      · rw [Array.setIfInBounds_comm _ _ hji]; exact hk

theorem runA_of_runTX {K : Act → World → Prop} (hB : Blind EE) (hs : Region.noSelect ops = true) (he : edgeB ops = true) : ∀ (p : Pl) (f : Nat) (listed : Array Bool), listed.size = ops.size →
    (∀ i oi, ops[i]? = some oi → listed.getD i false = true → ∀ e ∈ oi.after, Region.binds .any e = true → listed.getD e.on false = true) →
    unl ops listed ≤ f →
    (chkX P ops true listed p = true → ∀ a w, runT P EE ops K p a w → runA P EE ops K f listed a w) ∧
    (chkX P ops false listed p = true → ∀ i ∈ forksT p, i ∈ Region.ready .any ops listed → ∀ a w, runT P EE ops K p a w → ∀ f', f = f' + 1 → stepI P EE ops i (runA P EE ops K f' (listed.setIfInBounds i true)) a w) := by
  have count : ∀ (listed : Array Bool) (i : Nat), listed.size = ops.size → i ∈ Region.ready .any ops listed → ∀ f, unl ops listed ≤ f + 1 → unl ops (listed.setIfInBounds i true) ≤ f := by
    intro listed i hsz hi f hf
    have := unl_set hsz hi
    omega
  have pos : ∀ (listed : Array Bool) (i : Nat), i ∈ Region.ready .any ops listed → ∀ f, unl ops listed ≤ f → ∃ f', f = f' + 1 := by
    intro listed i hi f hf
    have := unl_pos hi
    exact ⟨f - 1, by omega⟩
  intro p
  induction p with
  | done =>
    intro f listed hsz closed hf
    refine ⟨fun hc a w h => ?_, fun hc => ?_⟩
    · have hr : Region.ready .any ops listed = [] := by simpa [chkX] using hc
      cases f with
      | zero => exact ⟨hr, h⟩
      | succ f => exact ⟨fun _ => h, by rw [hr]; simp⟩
    · simp [chkX] at hc
  | stop =>
    intro f listed hsz closed hf
    exact ⟨fun hc => by simp [chkX] at hc, fun hc i hi => by simp [forksT] at hi⟩
  | take i t ih =>
    intro f listed hsz closed hf
    refine ⟨fun hc a w h => ?_, fun hc => by simp [chkX] at hc⟩
    simp only [chkX, Bool.and_eq_true, List.contains_iff_mem] at hc
    obtain ⟨⟨hi, hfree⟩, hc⟩ := hc
    obtain ⟨f', rfl⟩ := pos listed i hi f hf
    obtain ⟨_, oi, ho, _⟩ := mem_ready.1 hi
    refine runA_takeX hB hs he ho f' listed a w hsz closed hf hi hfree ?_
    have h' : stepI P EE ops i (runT P EE ops K t) a w := h
    rw [stepI_eq ho] at h'
    exact stepS_mono (fun a' w' hk => (ih f' (listed.setIfInBounds i true) (by simp [hsz]) (closed_set hi closed) (count listed i hsz hi f' hf)).1 hc a' w' hk) h'
  | fork i t u iht ihu =>
    intro f listed hsz closed hf
    have one : chkX P ops true (listed.setIfInBounds i true) t = true → i ∈ Region.ready .any ops listed → ∀ a w, stepI P EE ops i (runT P EE ops K t) a w → ∀ f', f = f' + 1 → stepI P EE ops i (runA P EE ops K f' (listed.setIfInBounds i true)) a w := by
      intro hc hi a w h f' hff
      subst hff
      obtain ⟨_, oi, ho, _⟩ := mem_ready.1 hi
      rw [stepI_eq ho] at h ⊢
      exact stepS_mono (fun a' w' hk => (iht f' (listed.setIfInBounds i true) (by simp [hsz]) (closed_set hi closed) (count listed i hsz hi f' hf)).1 hc a' w' hk) h
    have two : chkX P ops true (listed.setIfInBounds i true) t = true → chkX P ops false listed u = true → ∀ q ∈ forksT (.fork i t u), q ∈ Region.ready .any ops listed → ∀ a w, runT P EE ops K (.fork i t u) a w → ∀ f', f = f' + 1 → stepI P EE ops q (runA P EE ops K f' (listed.setIfInBounds q true)) a w := by
      intro hc1 hc2 q hq hqr a w h f' hff
      rcases List.mem_cons.1 hq with rfl | hq
      · exact one hc1 hqr a w h.1 f' hff
      · exact (ihu f listed hsz closed hf).2 hc2 q hq hqr a w h.2 f' hff
    refine ⟨fun hc a w h => ?_, fun hc q hq hqr a w h f' hff => ?_⟩
    · simp only [chkX, Bool.and_eq_true, beq_iff_eq] at hc
      obtain ⟨⟨hfk, hc1⟩, hc2⟩ := hc
      have hi : i ∈ Region.ready .any ops listed := by rw [← hfk]; exact List.mem_cons_self ..
      obtain ⟨f', rfl⟩ := pos listed i hi f hf
      refine ⟨fun hr => (by rw [hr] at hi; cases hi), fun q hq => two hc1 hc2 q (by rw [hfk]; exact hq) hq a w h f' rfl⟩
    · simp only [chkX, Bool.and_eq_true] at hc
      exact two hc.1 hc.2 q hq hqr a w h f' hff

/-! ### where panics go -/
class BlindQ (Q : Exit → Act → World → Prop) : Prop where
  blind : ∀ ch (a : Act) d v w, Q (.panic ch) (a.put d v) w ↔ Q (.panic ch) a w
instance {K : Act → World → Prop} {Q : Exit → Act → World → Prop} [h : BlindQ Q] : BlindQ (Exit.then K Q) := ⟨fun ch a d v w => h.blind ch a d v w⟩
instance {id : Nat} {Q : Exit → Act → World → Prop} [h : BlindQ Q] : BlindQ (Exit.inBlock id Q) := ⟨fun ch a d v w => h.blind ch a d v w⟩
instance {fn : Func} {R : Ending → World → Prop} : BlindQ (bodyPost P fn R) := ⟨fun ch a d v w => by
  show ((a.put d v).defers = [] ∧ _) ↔ (a.defers = [] ∧ _)
  rw [put_defers']⟩
instance {X : Type} {n : Nat} {fc : X → Fm} {Lc : X → List HP} {Q : Exit → Act → World → Prop} [h : BlindQ Q] : BlindQ (cutR n fc Lc Q) := ⟨fun ch a d v w => by
  have := h.blind ch a d v w
  simp [cutR, this]⟩

theorem wp_region_planX {Q : Exit → Act → World → Prop} [hQ : BlindQ Q] {id : Nat} {l : List Oper} {a : Act} {w : World} (p : Pl) (hm : P.follows .mixedOrders = true)
    (hc : (Region.noSelect l.toArray && edgeB l.toArray && chkX P l.toArray true (Array.replicate l.length false) p) = true)
    (h : runT P (some fun ch => Q (.panic ch)) l.toArray (Q .normal) p a w.drew) : (Code.region id l.toArray true).wp P Q a w := by
  simp only [Bool.and_eq_true] at hc
  refine wp_region_any hm (runA_wpAnyX (EE := some fun ch => Q (.panic ch)) rfl _ _ _ _ ?_)
  have hsz : (Array.replicate l.toArray.size false).size = l.toArray.size := by simp
  refine (runA_of_runTX (fun E hE => by cases hE; exact hQ.blind) hc.1.1 hc.1.2 p l.toArray.size (Array.replicate l.toArray.size false) hsz (fun i oi _ hl => ?_) ?_).1 (by simpa using hc.2) a w.drew h
  · rw [getD_rep_false] at hl; cases hl
  · exact Nat.le_trans (List.length_filter_le _ _) (by simp)

variable {n : Nat} {fm : Fm} {L : List HP}
theorem j_planX {Q : Exit → Act → World → Prop} {id : Nat} {l : List Oper} [hm : Mixed P] [hQ : BlindQ Q] (p : Pl) (hq : (Region.noSelect l.toArray && edgeB l.toArray && chkX P l.toArray true (Array.replicate l.length false) p) = true) (h : J n fm L (runT P (some fun ch => Q (.panic ch)) l.toArray (Q .normal) p)) : J n fm L ((Code.region id l.toArray true).wp P Q) :=
  fun a w hr hs => wp_region_planX p hm.mixed hq (h a w.drew hr hs.drew)

/-! ### functions that may panic -/
def postX (R E : Value → List HP → Prop) (F : List HP) : Ending → World → Prop := fun e w' => postF R F e w' ∨ ∃ v M, e = .panicked [{ v, recovered := false }] ∧ E v M ∧ Sat (M ++ F) w'
def TrX (P : Program) (f : FuncId) (args : List Value) (Lp : List HP) (R E : Value → List HP → Prop) : Prop :=
  ∀ (F : List HP) (w : World), Sat (Lp ++ F) w → Calls P f args.toArray w (postX R E F)
theorem Tr.x {f : FuncId} {args : List Value} {Lp : List HP} {R E : Value → List HP → Prop} (h : Tr P f args Lp R) : TrX P f args Lp R E :=
  fun F w hw => (h F w hw).mono fun e w' hk => .inl hk
theorem TrX.mono {f : FuncId} {args : List Value} {Lp : List HP} {R R' E E' : Value → List HP → Prop} (h : TrX P f args Lp R E) (hr : ∀ v M, R v M → R' v M) (he : ∀ v M, E v M → E' v M) : TrX P f args Lp R' E' :=
  fun F w hw => (h F w hw).mono fun e w' hk => hk.elim (fun ⟨v, M, h1, h2, h3⟩ => .inl ⟨v, M, h1, hr v M h2, h3⟩) (fun ⟨v, M, h1, h2, h3⟩ => .inr ⟨v, M, h1, he v M h2, h3⟩)
theorem TrX.tr {f : FuncId} {args : List Value} {Lp : List HP} {R E : Value → List HP → Prop} (h : TrX P f args Lp R E) (he : ∀ v M, ¬ E v M) : Tr P f args Lp R :=
  fun F w hw => (h F w hw).mono fun e w' hk => hk.elim id (fun ⟨v, M, h1, h2, h3⟩ => absurd h2 (he v M))
theorem tr_enterX {f : FuncId} {fn : Func} {c : Code} {args : List Value} {Lp : List HP} {R E : Value → List HP → Prop} (hf : P.funcs[f]? = some fn) (hb : fn.body = some c) (hn : fn.ntmps = n) (hsz : Nat.ble args.length n = true)
    (h : ∀ F, J n (fmArgs args 0) (Lp ++ F) (c.wp P (bodyPost P fn (postX R E F)))) : TrX P f args Lp R E := by
  intro F w hw
  have hle : args.length ≤ n := Nat.le_of_ble_eq_true hsz
  refine calls_of_wp hf hb (h F _ w ⟨rfl, ?_, fun i v hi => ?_⟩ hw)
  · simp [hn]; omega
  · obtain ⟨_, h2⟩ := look_fmArgs args 0 i v hi
    have hlt := (List.getElem?_eq_some_iff.1 h2).1
    simp only [Nat.sub_zero] at hlt h2
    have h3 : (args.toArray ++ Array.replicate (fn.ntmps - args.toArray.size) undef)[i]? = args[i]? := by
      rw [Array.getElem?_append]; simp [hlt]
    exact h3.trans h2

variable {fn : Func} {R E : Value → List HP → Prop} {F : List HP}
theorem j_retX (h : J n fm L (bodyPost P fn (postF R F) .ret)) : J n fm L (bodyPost P fn (postX R E F) .ret) :=
  fun a w hr hw => let ⟨h1, v, h2, h3⟩ := h a w hr hw; ⟨h1, v, h2, .inl h3⟩
theorem j_panicked {v : Value} {M : List HP} (hL : Pk L (M ++ F)) (hE : E v M) : J n fm L (bodyPost P fn (postX R E F) (.panic [{ v, recovered := false }])) :=
  fun a w hr hw => ⟨hr.defers, .inr ⟨v, M, rfl, hE, hw.pk hL⟩⟩
theorem j_then_panic {K : Act → World → Prop} {Q : Exit → Act → World → Prop} {ch : List PanicEntry} (h : J n fm L (Q (.panic ch))) : J n fm L (Exit.then K Q (.panic ch)) := h
theorem j_inb_panic {id : Nat} {Q : Exit → Act → World → Prop} {ch : List PanicEntry} (h : J n fm L (Q (.panic ch))) : J n fm L (Exit.inBlock id Q (.panic ch)) := h
theorem j_cutRpanic {X : Type} {fc : X → Fm} {Lc : X → List HP} {Q : Exit → Act → World → Prop} {ch : List PanicEntry} (h : J n fm L (Q (.panic ch))) : J n fm L (cutR n fc Lc Q (.panic ch)) :=
  fun a w hr hw => .inr ⟨by simp, h a w hr hw⟩

/-- the end of a function with one deferred closure, by a panic that the closure takes up -/
theorem j_leaveP {fn : Func} {R : Value → List HP → Prop} {F F' Lp M M' : List HP} {f : FuncId} [hf : Fnc P f] {cap : Array Value} {v u : Value} (spec : TrD P f cap.toList (.panicking [{ v := u, recovered := false }]) (.panicking [{ v := u, recovered := true }]) Lp M) (hL : Pk L (Lp ++ F'))
    (hres : ∀ a w, Rep n fm a → Sat (M ++ F') w → (results fn a.tmps).run P w = .ok v w) (hM : Pk (M ++ F') (M' ++ F)) (hR : R v M') : J n fm L (wd [{ target := .fn (.func f) cap, args := #[] }] (bodyPostD P fn (postF R F) (.panic [{ v := u, recovered := false }]))) := by
  intro a w hr hw
  show Leaves P fn a.tmps _ (a.defers ++ _) (.panicking _) w
  rw [hr.defers]
  obtain ⟨fn', h1, h2, h3⟩ := hf.fn
  have hb2 : fn'.body ≠ none := by intro e; rw [e] at h2; simp at h2
  have h3' : fn'.name ≠ "runtime.NumGoroutine" := by simpa using h3
  refine ⟨by simp, .func f, cap, f, cap, rfl, ?_, ?_⟩
  · simp [invoke, callFunc, h1, h3', hb2]
  · have e : cap = cap.toList.toArray := by simp
    have := spec F' w (hw.pk hL)
    rw [← e] at this
    intro c₀ cs hu
    obtain ⟨e, u', w', fr, ⟨⟨v0, rfl⟩, rfl, hs⟩, hh⟩ := this c₀ cs hu
    refine ⟨_, _, w', fr, ?_, hh⟩
    show Leaves P fn a.tmps _ [] (settle (.panicking [{ v := u, recovered := true }])) w'
    exact ⟨v, hres a w' hr hs, v, M', rfl, hR, hs.pk hM⟩
theorem run_loadVar_one {t : TypeId} {d1 : TypeDesc} {n1 : Nat} [ht : TyC P t d1 n1] (ha : aggT d1 = false) {w : World} (hw : Sat L w) {b o : Nat} {T : TypeId} {l : List Value} {v : Value} (hA : At L (blk b T l)) (hc : l[o]? = some v) :
    (loadVar t ⟨b, o, none⟩).run P w = .ok v w := by
  simp [loadVar, run_isAgg ht.und, ha, hw.cell hA, hc]
theorem run_res2 {fn : Func} {a : Act} {c1 c2 : Tmp} {t1 t2 : TypeId} {b1 b2 : Nat} {v1 v2 : Value} {w : World} (hr : Rep n fm a) (ht : fn.results = #[.cell c1 t1, .cell c2 t2]) (h1 : look fm c1 = some (.pointer (some ⟨b1, 0, none⟩))) (h2 : look fm c2 = some (.pointer (some ⟨b2, 0, none⟩)))
    (e1 : (loadVar t1 ⟨b1, 0, none⟩).run P w = .ok v1 w) (e2 : (loadVar t2 ⟨b2, 0, none⟩).run P w = .ok v2 w) : (results fn a.tmps).run P w = .ok (.tuple #[v1, v2]) w := by
  simp [results, ht, hr.slot c1 _ h1, hr.slot c2 _ h2, asAddr, e1, e2]
theorem j_retD {L M F : List HP} {fn : Func} (ht : fn.results = #[]) (hL : Pk L (M ++ F)) : J n fm L (bodyPost P fn (fun e w' => (∃ v, e = .returned v) ∧ Sat (M ++ F) w') .normal) :=
  fun a w hr hw => ⟨hr.defers, .tuple #[], by simp [results, ht], ⟨_, rfl⟩, hw.pk hL⟩

variable {rest : List Oper} {K : Act → World → Prop} {d : Tmp} {ty : TypeId} {pos : String} {after : Array Edge} {EX0 : List PanicEntry → Act → World → Prop}
theorem j_callX {f : FuncId} [hf : Fnc P f] {c : Operand} {as : Array Operand} {ats : Array TypeId} {cap : Array Value} {vs : List Value} {Lp F : List HP} {R E : Value → List HP → Prop}
    (hc : ev fm c = some (.func (.func f) #[] cap)) (ha : as.toList.mapM (ev fm) = some vs) (spec : TrX P f (vs ++ cap.toList) Lp R E) (hL : Pk L (Lp ++ F)) (hd : Nat.blt d n = true)
    (k : ∀ v M N, R v M → N = M ++ F → J n ((d, v) :: fm) N (runS P (some EX0) ops K rest))
    (kp : ∀ v M N, E v M → N = M ++ F → J n fm N (EX0 [{ v, recovered := false }])) : J n fm L (runS P (some EX0) ops K (⟨some d, .call ⟨.value c, as, ats⟩, ty, pos, after, none⟩ :: rest)) := by
  intro a w hr hw
  refine runS_pos rfl ?_
  show afterE P EX0 _ a _ _
  obtain ⟨fn, h1, h2, h3⟩ := hf.fn
  have h4 : as.map a.eval = vs.toArray := by
    have h2 : ∀ (l : List Operand) (vs : List Value), l.mapM (ev fm) = some vs → l.map a.eval = vs := by
      intro l
      induction l with
      | nil => intro vs h; simp at h; simp [h]
      | cons x l ih =>
        intro vs h
        simp only [List.mapM_cons, Option.bind_eq_bind, Option.bind_eq_some_iff, Option.pure_def, Option.some.injEq] at h
        obtain ⟨v, hv, vs', hvs, rfl⟩ := h
        simp [hr.ev hv, ih vs' hvs]
    have h3 := h2 _ _ ha
    apply Array.toList_inj.1
    simpa using h3
  have hb2 : fn.body ≠ none := by intro e; rw [e] at h2; simp at h2
  have hrun : (execOp a.eval ⟨some d, .call ⟨.value c, as, ats⟩, ty, pos, after, none⟩).run P w = .ok (.enter f (vs ++ cap.toList).toArray) w := by
    have h3' : fn.name ≠ "runtime.NumGoroutine" := by simpa using h3
    have e1 : vs.toArray ++ cap = (vs ++ cap.toList).toArray := by apply Array.toList_inj.1; simp
    simp [execOp, resolve, hr.ev hc, Deferred.ofValue, invoke, callFunc, h1, h2, h3', h4, hb2]
  rw [hrun]
  exact Calls.mono (spec F w (hw.pk hL)) fun e w' hk => hk.elim
    (fun ⟨v, M, he, hR, hs⟩ => .inl ⟨v, he, k v M _ hR rfl _ w' (hr.put hd v) hs⟩)
    (fun ⟨v, M, he, hE, hs⟩ => .inr ⟨_, he, kp v M _ hE rfl _ w' hr hs⟩)

theorem j_panicI {x : Operand} {t : TypeId} {v : Value} (hx : ev fm x = some (.iface t v)) (h : J n fm L (EX0 [{ v := .iface t v, recovered := false }])) : J n fm L (runS P (some EX0) ops K (⟨none, .panic x, ty, pos, after, none⟩ :: rest)) := by
  intro a w hr hw
  refine runS_pos rfl ?_
  show afterE P EX0 _ a _ _
  have hrun : (execOp a.eval ⟨none, .panic x, ty, pos, after, none⟩).run P w = .halt (.panic (.iface t v)) w := by
    simp only [execOp, hr.ev hx]; rfl
  rw [hrun]
  exact h a w hr hw
end
end Go.Proofs.Ytnmfpgfgjjmfhaa
