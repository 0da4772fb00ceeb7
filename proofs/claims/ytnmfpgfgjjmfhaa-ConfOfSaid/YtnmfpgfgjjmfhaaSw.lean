/-
  What is known of a frame; regions: the text's order serves every order where the operations allow it.
-/
import Derived.Test.YtnmfpgfgjjmfhaaSl
set_option linter.unusedVariables false
set_option linter.unusedSimpArgs false
namespace Go.Proofs.Ytnmfpgfgjjmfhaa
open Go

abbrev Fm := List (Nat × Value)
def look : Fm → Nat → Option Value
  | [], _ => none
  | (k, v) :: r, i => bif Nat.beq k i then some v else look r i

structure Rep (n : Nat) (fm : Fm) (a : Act) : Prop where
  defers : a.defers = []
  size : a.tmps.size = n
  slot : ∀ i v, look fm i = some v → a.tmps[i]? = some v

theorem look_cons (k : Nat) (v : Value) (r : Fm) (i : Nat) : look ((k, v) :: r) i = if k = i then some v else look r i := by
  simp only [look]
  by_cases h : k = i
  · subst h; simp
  · have : Nat.beq k i = false := by
      cases hb : Nat.beq k i with
      | false => rfl
      | true => exact absurd (Nat.eq_of_beq_eq_true hb) h
    simp [this, h]

theorem Rep.put {n : Nat} {fm : Fm} {a : Act} (h : Rep n fm a) {d : Nat} (hd : Nat.blt d n = true) (v : Value) : Rep n ((d, v) :: fm) (a.put (some d) v) := by
  have hd' : d < n := Nat.blt_eq.mp hd
  refine ⟨h.defers, by simp [Act.put, h.size], fun i u hi => ?_⟩
  rw [look_cons] at hi
  by_cases hdi : d = i
  · subst hdi
    simp at hi
    subst hi
    simp [Act.put, h.size, hd']
  · rw [if_neg hdi] at hi
    simp only [Act.put]
    rw [Array.getElem?_setIfInBounds_ne hdi]
    exact h.slot i u hi

theorem Rep.none {n : Nat} {fm : Fm} {a : Act} (h : Rep n fm a) (v : Value) : Rep n fm (a.put none v) := h

def ev (fm : Fm) : Operand → Option Value
  | .tmp t => look fm t
  | .const v => some v
  | .global g => some (.pointer (some ⟨g, 0, none⟩))
  | .func f => some (.func (.func f) #[] #[])

theorem Rep.ev {n : Nat} {fm : Fm} {a : Act} (h : Rep n fm a) {x : Operand} {v : Value} (hx : ev fm x = some v) : a.eval x = v := by
  cases x with
  | tmp t => have := h.slot t v hx; simp [Act.eval, this]
  | const u => simpa [Proofs.Ytnmfpgfgjjmfhaa.ev, Act.eval] using hx
  | global g => simpa [Proofs.Ytnmfpgfgjjmfhaa.ev, Act.eval] using hx
  | func f => simpa [Proofs.Ytnmfpgfgjjmfhaa.ev, Act.eval] using hx

/-- all that is known at a place of the code -/
def J (n : Nat) (fm : Fm) (L : List HP) (X : Act → World → Prop) : Prop := ∀ a w, Rep n fm a → Sat L w → X a w

/-! ## regions -/
/-- the heap goes on from w's -/
structure Ext (w w' : World) : Prop where
  heap : ∀ b, b < w.heap.size → w'.heap[b]? = w.heap[b]?
  size : w.heap.size ≤ w'.heap.size
  kept : Kept0 w w'
theorem Ext.refl (w : World) : Ext w w := ⟨fun _ _ => rfl, Nat.le_refl _, Kept0.refl w⟩
theorem Ext.alloc {w w' : World} (h : Ext w w') (o : Obj) : Ext w (w'.alloc o) :=
  ⟨fun b hb => (heap_alloc_old w' o (Nat.lt_of_lt_of_le hb h.size)).trans (h.heap b hb), by simp; exact Nat.le_succ_of_le h.size, ⟨h.kept.os, h.kept.output, h.kept.tape⟩⟩
theorem Sat.ext {L : List HP} {w w' : World} (h : Sat L w) (e : Ext w w') : Sat L w' := by
  obtain ⟨hl, own, h⟩ := h
  refine ⟨hl, own, fun i A hi => ?_⟩
  have := hl A (List.mem_of_getElem? hi)
  exact Loc.loc (h i A hi) (fun b hb hS => ⟨hS, e.heap b hb⟩) e.kept

inductive Md where
  | p | r | n | w
  deriving DecidableEq

def cls (P : Program) : Op → Md
  | .move _ | .assign _ | .pick .. | .nilCheck _ | .fieldAddr .. | .field .. | .indexAddr .. | .index .. | .slice .. | .unOp .. | .makeInterface .. | .makeFunc .. | .extract .. | .build .. => .p
  | .binOp op _ _ _ _ => match op with
    | .eql | .neq => .r
    | _ => .p
  | .load .. => .r
  | .lookup .. => .r
  | .box .. | .alloc _ | .buildSlice .. => .n
  | .convert s d _ => match P.underlying s, P.underlying d with
    | some (.int _), some (.int _) => .p
    | some .string, some .string => .p
    | _, _ => .w
  | .call { callee := .builtin b, .. } => match b with
    | .len | .cap => .r
    | .min | .max => .p
    | _ => .w
  | _ => .w

/-- what comes of an operation, without panics -/
def afterN (P : Program) (o : Oper) (a : Act) (K : Act → World → Prop) : Result Next → Prop
  | .ok (.value v) w' => K (a.put o.dst v) w'
  | .ok .skip w' => K (a.put o.dst undef) w'
  | .ok (.enter f args) w' => Calls P f args w' fun e w'' => ∃ v, e = .returned v ∧ K (a.put o.dst v) w''
  | _ => False
/-- .. and with them, and with calls put off -/
def afterE (P : Program) (E : List PanicEntry → Act → World → Prop) (o : Oper) (a : Act) (K : Act → World → Prop) : Result Next → Prop
  | .ok (.value v) w' => K (a.put o.dst v) w'
  | .ok .skip w' => K (a.put o.dst undef) w'
  | .ok (.defer d) w' => K ({ a with defers := d :: a.defers }.put o.dst undef) w'
  | .ok (.enter f args) w' => Calls P f args w' fun e w'' => (∃ v, e = .returned v ∧ K (a.put o.dst v) w'') ∨ ∃ ch, e = .panicked ch ∧ E ch a w''
  | .halt (.panic v) w' => E [{ v, recovered := false }] a w'
  | _ => False
abbrev EX := Option (List PanicEntry → Act → World → Prop)
def afterW (P : Program) (EE : EX) (o : Oper) (a : Act) (K : Act → World → Prop) (r : Result Next) : Prop := match EE with
  | none => afterN P o a K r
  | some E => afterE P E o a K r

def doS (P : Program) (EE : EX) (o : Oper) (K : Act → World → Prop) (a : Act) (w : World) : Md → Prop
  | .p => ∃ v, (∀ w, (execOp a.eval o).run P w = .ok (.value v) w) ∧ K (a.put o.dst v) w
  | .r => ∃ v, (∀ w', Ext w w' → (execOp a.eval o).run P w' = .ok (.value v) w') ∧ K (a.put o.dst v) w
  | .n => ∃ (b : Obj) (f : Nat → Value), (∀ w', (execOp a.eval o).run P w' = .ok (.value (f w'.heap.size)) (w'.alloc b)) ∧ K (a.put o.dst (f w.heap.size)) (w.alloc b)
  | .w => afterW P EE o a K ((execOp a.eval o).run P w)

def stepS (P : Program) (EE : EX) (ops : Array Oper) (o : Oper) (K : Act → World → Prop) (a : Act) (w : World) : Prop :=
  if Region.wanted o (yielded ops a.tmps) = true then doS P EE o K a w (cls P o.op) else K (a.put o.dst undef) w

def runS (P : Program) (EE : EX) (ops : Array Oper) (K : Act → World → Prop) : List Oper → Act → World → Prop
  | [] => K
  | o :: r => stepS P EE ops o (runS P EE ops K r)

section
variable {P : Program} {EE : EX} {ops : Array Oper}

theorem afterW_mono {o : Oper} {a : Act} {K K' : Act → World → Prop} (h : ∀ a w, K a w → K' a w) {r : Result Next} (hh : afterW P EE o a K r) : afterW P EE o a K' r := by
  cases EE with
  | none =>
    simp only [afterW] at hh ⊢
    cases r with
    | ok x w' =>
      cases x <;> simp only [afterN] at hh ⊢ <;> first
        | exact h _ _ hh
        | exact Calls.mono hh (fun e w'' ⟨v, he, hk⟩ => ⟨v, he, h _ _ hk⟩)
    | halt x w' => exact hh
  | some E =>
    simp only [afterW] at hh ⊢
    cases r with
    | ok x w' =>
      cases x <;> simp only [afterE] at hh ⊢ <;> first
        | exact h _ _ hh
        | exact Calls.mono hh (fun e w'' hk => hk.elim (fun ⟨v, he, hk⟩ => .inl ⟨v, he, h _ _ hk⟩) .inr)
    | halt x w' =>
      cases x <;> simp only [afterE] at hh ⊢ <;> first
        | exact hh
        | exact hh.elim
theorem afterW_enter {o : Oper} {a : Act} {K : Act → World → Prop} {f : FuncId} {args : Array Value} {w' : World} (h : Calls P f args w' fun e w'' => ∃ v, e = .returned v ∧ K (a.put o.dst v) w'') : afterW P EE o a K (.ok (.enter f args) w') := by
  cases EE with
  | none => exact h
  | some E => exact Calls.mono h (fun e w'' hk => .inl hk)
theorem afterW_value {o : Oper} {a : Act} {K : Act → World → Prop} {v : Value} {w' : World} (h : K (a.put o.dst v) w') : afterW P EE o a K (.ok (.value v) w') := by
  cases EE <;> exact h
theorem afterW_skip {o : Oper} {a : Act} {K : Act → World → Prop} {w' : World} (h : K (a.put o.dst undef) w') : afterW P EE o a K (.ok .skip w') := by
  cases EE <;> exact h

theorem doS_mono {o : Oper} {K K' : Act → World → Prop} (h : ∀ a w, K a w → K' a w) {a : Act} {w : World} {m : Md} (hh : doS P EE o K a w m) : doS P EE o K' a w m := by
  cases m with
  | p => obtain ⟨v, h1, h2⟩ := hh; exact ⟨v, h1, h _ _ h2⟩
  | r => obtain ⟨v, h1, h2⟩ := hh; exact ⟨v, h1, h _ _ h2⟩
  | n => obtain ⟨b, f, h1, h2⟩ := hh; exact ⟨b, f, h1, h _ _ h2⟩
  | w => exact afterW_mono h hh

theorem stepS_mono {o : Oper} {K K' : Act → World → Prop} (h : ∀ a w, K a w → K' a w) {a : Act} {w : World} (hh : stepS P EE ops o K a w) : stepS P EE ops o K' a w := by
  unfold stepS at *
  split
  · rename_i hw; rw [if_pos hw] at hh; exact doS_mono h hh
  · rename_i hw; rw [if_neg hw] at hh; exact h _ _ hh

theorem stepS_pos {o : Oper} {K : Act → World → Prop} {a : Act} {w : World} (h : Region.wanted o (yielded ops a.tmps) = true) : stepS P EE ops o K a w = doS P EE o K a w (cls P o.op) := by
  unfold stepS; rw [if_pos h]
theorem stepS_neg {o : Oper} {K : Act → World → Prop} {a : Act} {w : World} (h : ¬ Region.wanted o (yielded ops a.tmps) = true) : stepS P EE ops o K a w = K (a.put o.dst undef) w := by
  unfold stepS; rw [if_neg h]

/-- where a region's panics go: nowhere, or where its code's go -/
def exOk (Q : Exit → Act → World → Prop) : EX → Prop
  | none => True
  | some E => E = fun ch => Q (.panic ch)
theorem doS_wp {Q : Exit → Act → World → Prop} (hQ : exOk Q EE) {o : Oper} {K : Act → World → Prop} {a : Act} {w : World} {m : Md} (hh : doS P EE o K a w m) : o.wp P a w K Q := by
  unfold Oper.wp
  cases m with
  | p => obtain ⟨v, h1, h2⟩ := hh; rw [h1 w]; exact h2
  | r => obtain ⟨v, h1, h2⟩ := hh; rw [h1 w (Ext.refl w)]; exact h2
  | n => obtain ⟨b, f, h1, h2⟩ := hh; rw [h1 w]; exact h2
  | w =>
    simp only [doS] at hh
    generalize (execOp a.eval o).run P w = r at *
    cases EE with
    | none =>
      simp only [afterW] at hh
      cases r with
      | ok x w' =>
        cases x <;> simp only [afterN] at hh <;> simp only [Oper.upon] <;> first
          | exact hh
          | exact hh.elim
          | exact Calls.mono hh (fun e w'' ⟨v, he, hk⟩ => by subst he; exact hk)
      | halt x w' => exact hh.elim
    | some E =>
      simp only [exOk] at hQ
      subst hQ
      simp only [afterW] at hh
      cases r with
      | ok x w' =>
        cases x <;> simp only [afterE] at hh <;> simp only [Oper.upon] <;> first
          | exact hh
          | exact hh.elim
          | exact Calls.mono hh (fun e w'' hk => by
              rcases hk with ⟨v, he, hk⟩ | ⟨ch, he, hk⟩
              · subst he; exact hk
              · subst he; exact hk)
      | halt x w' =>
        cases x <;> simp only [afterE] at hh <;> first
          | exact hh
          | exact hh.elim

theorem stepS_wpOp {Q : Exit → Act → World → Prop} {o : Oper} {K : Act → World → Prop} {a : Act} {w : World} {i : Nat} (hQ : exOk Q EE) (hi : ops[i]? = some o) (hh : stepS P EE ops o K a w) : wpOp P ops Q i K a w := by
  unfold wpOp
  simp only [hi]
  unfold stepS at hh
  split
  · rename_i hw; rw [if_pos hw] at hh; exact .inl (doS_wp hQ hh)
  · rename_i hw; rw [if_neg hw] at hh; exact hh

theorem runS_wpList {Q : Exit → Act → World → Prop} (hQ : exOk Q EE) : ∀ (l : List Oper) (a : Act) (w : World), runS P EE ops (Q .normal) l a w → wpList P ops Q l a w
  | [], a, w, h => h
  | o :: r, a, w, h => by
    have h' := stepS_mono (fun a w hk => runS_wpList hQ r a w hk) h
    unfold stepS at h'
    unfold wpList
    split
    · rename_i hw; rw [if_pos hw] at h'; exact .inl (doS_wp hQ h')
    · rename_i hw; rw [if_neg hw] at h'; exact h'

/-! ### orders -/
def mdOk : Md → Md → Bool
  | .p, _ => true
  | _, .p => true
  | .r, .r => true
  | .r, .n => true
  | _, _ => false

def indep (P : Program) (ops : Array Oper) (x y : Oper) : Bool := x.apart ops y && mdOk (cls P x.op) (cls P y.op)

theorem apart_symm {x y : Oper} (h : x.apart ops y = true) : y.apart ops x = true := by
  obtain ⟨h1, h2, h3⟩ := Oper.apart_spec h
  unfold Oper.apart
  cases hx : x.dst <;> cases hy : y.dst <;> simp_all
  intro e
  exact absurd e.symm h2

section
variable (hsel : ∀ (cs : Array SelectCase) (b : Bool) (o : Oper), o ∈ ops → o.op ≠ .select cs b)

/-- y behind x may as well stand ahead of it -/
theorem stepS_comm {x y : Oper} (hx : ∀ cs b, x.op ≠ .select cs b) (hy : ∀ cs b, y.op ≠ .select cs b) (hi : indep P ops x y = true) {K : Act → World → Prop} {a : Act} {w : World}
    (h : stepS P none ops x (stepS P none ops y K) a w) : stepS P none ops y (stepS P none ops x K) a w := by
  unfold indep at hi
  rw [Bool.and_eq_true] at hi
  obtain ⟨h1, h2, h3⟩ := Oper.apart_spec hi.1
  have hm := hi.2
  have hcx : ∀ (b : Act) u, (b.put x.dst u).eval = (b.put x.dst u).eval := fun _ _ => rfl
  have ey : ∀ (b : Act) u, execOp (b.put x.dst u).eval y = execOp b.eval y := fun b u => execOp_put y hy b x.dst u h1
  have ex : ∀ (b : Act) u, execOp (b.put y.dst u).eval x = execOp b.eval x := fun b u => execOp_put x hx b y.dst u h3
  have wy : ∀ (b : Act) u, Region.wanted y (yielded ops (b.put x.dst u).tmps) = Region.wanted y (yielded ops b.tmps) := fun b u => wanted_put y b x.dst u h1
  have wx : ∀ (b : Act) u, Region.wanted x (yielded ops (b.put y.dst u).tmps) = Region.wanted x (yielded ops b.tmps) := fun b u => wanted_put x b y.dst u h3
  have hc : ∀ (b : Act) u v, (b.put x.dst u).put y.dst v = (b.put y.dst v).put x.dst u := fun b u v => Act.put_comm b u v h2
  -- what y comes to at a frame and a world
  have back : ∀ (u : Value) (w1 : World), stepS P none ops y K (a.put x.dst u) w1 → stepS P none ops y (fun a' w' => K (a'.put x.dst u) w') a w1 := by
    intro u w1 hh
    unfold stepS at hh ⊢
    rw [wy] at hh
    split
    · rename_i hw
      rw [if_pos hw] at hh
      generalize cls P y.op = m at hh ⊢
      cases m with
      | p => obtain ⟨v, k1, k2⟩ := hh; rw [ey] at k1; rw [hc] at k2; exact ⟨v, k1, k2⟩
      | r => obtain ⟨v, k1, k2⟩ := hh; rw [ey] at k1; rw [hc] at k2; exact ⟨v, k1, k2⟩
      | n => obtain ⟨b, f, k1, k2⟩ := hh; rw [ey] at k1; rw [hc] at k2; exact ⟨b, f, k1, k2⟩
      | w =>
        simp only [doS] at hh ⊢
        rw [ey] at hh
        generalize (execOp a.eval y).run P w1 = r at hh ⊢
        cases r with
        | ok n w' =>
          cases n <;> simp only [afterW, afterN] at hh ⊢ <;> first
            | (rw [hc] at hh; exact hh)
            | exact hh.elim
            | exact Calls.mono hh (fun e w'' ⟨v, he, hk⟩ => ⟨v, he, by rw [hc] at hk; exact hk⟩)
        | halt n w' => exact hh.elim
    · rename_i hw
      rw [if_neg hw] at hh
      rw [hc] at hh
      exact hh
  by_cases hwx : Region.wanted x (yielded ops a.tmps) = true
  case neg =>
    rw [stepS_neg hwx] at h
    have hb := back undef w h
    unfold stepS at hb ⊢
    split
    · rename_i hw
      rw [if_pos hw] at hb
      generalize cls P y.op = m at hb ⊢
      cases m with
      | p => obtain ⟨v, k1, k2⟩ := hb; refine ⟨v, k1, ?_⟩; show stepS P none ops x K (a.put y.dst v) w; rw [stepS_neg (by rw [wx]; exact hwx)]; exact k2
      | n => obtain ⟨bo, f, k1, k2⟩ := hb; refine ⟨bo, f, k1, ?_⟩; show stepS P none ops x K (a.put y.dst (f w.heap.size)) (w.alloc bo); rw [stepS_neg (by rw [wx]; exact hwx)]; exact k2
      | r => obtain ⟨v, k1, k2⟩ := hb; refine ⟨v, k1, ?_⟩; show stepS P none ops x K (a.put y.dst v) w; rw [stepS_neg (by rw [wx]; exact hwx)]; exact k2
      | w =>
        simp only [doS] at hb ⊢
        generalize (execOp a.eval y).run P w = r at hb ⊢
        cases r with
        | ok n w' =>
          cases n <;> simp only [afterW, afterN] at hb ⊢ <;> first
            | (show stepS P none ops x K (a.put y.dst _) w'; rw [stepS_neg (by rw [wx]; exact hwx)]; exact hb)
            | exact hb.elim
            | exact Calls.mono hb (fun e w'' ⟨v, he, hk⟩ => ⟨v, he, by show stepS P none ops x K (a.put y.dst v) w''; rw [stepS_neg (by rw [wx]; exact hwx)]; exact hk⟩)
        | halt n w' => exact hb.elim
    · rename_i hw
      rw [if_neg hw] at hb
      show stepS P none ops x K (a.put y.dst undef) w
      rw [stepS_neg (by rw [wx]; exact hwx)]
      exact hb
  case pos =>
    -- x is wanted: by its mode
    rw [stepS_pos hwx] at h
    generalize hmx : cls P x.op = mx at h hm
    generalize hmy : cls P y.op = my at hm
    cases mx with
    | p =>
      obtain ⟨u, k1, k2⟩ := h
      have hb := back u w k2
      -- behind y, x comes to the same
      have fin : ∀ (b : Act) (w1 : World), execOp b.eval x = execOp a.eval x → Region.wanted x (yielded ops b.tmps) = true → K (b.put x.dst u) w1 → stepS P none ops x K b w1 := by
        intro b w1 e1 e2 hk
        unfold stepS
        rw [if_pos e2, hmx]
        exact ⟨u, fun w2 => by rw [e1]; exact k1 w2, hk⟩
      unfold stepS at hb
      unfold stepS
      split
      · rename_i hw
        rw [if_pos hw] at hb
        generalize cls P y.op = m at hb ⊢
        cases m with
        | p => obtain ⟨v, j1, j2⟩ := hb; exact ⟨v, j1, fin _ _ (ex a v) ((wx a v).trans hwx) j2⟩
        | r => obtain ⟨v, j1, j2⟩ := hb; exact ⟨v, j1, fin _ _ (ex a v) ((wx a v).trans hwx) j2⟩
        | n => obtain ⟨bo, f, j1, j2⟩ := hb; exact ⟨bo, f, j1, fin _ _ (ex a _) ((wx a _).trans hwx) j2⟩
        | w =>
          simp only [doS] at hb ⊢
          generalize (execOp a.eval y).run P w = r at hb ⊢
          cases r with
          | ok n w' =>
            cases n <;> simp only [afterW, afterN] at hb ⊢ <;> first
              | exact fin _ _ (ex a _) ((wx a _).trans hwx) hb
              | exact hb.elim
              | exact Calls.mono hb (fun e w'' ⟨v, he, hk⟩ => ⟨v, he, fin _ _ (ex a v) ((wx a v).trans hwx) hk⟩)
          | halt n w' => exact hb.elim
      · rename_i hw
        rw [if_neg hw] at hb
        exact fin _ _ (ex a _) ((wx a _).trans hwx) hb
    | r =>
      obtain ⟨u, k1, k2⟩ := h
      have hb := back u w k2
      have fin : ∀ (b : Act) (w1 : World), Ext w w1 → execOp b.eval x = execOp a.eval x → Region.wanted x (yielded ops b.tmps) = true → K (b.put x.dst u) w1 → stepS P none ops x K b w1 := by
        intro b w1 e0 e1 e2 hk
        unfold stepS
        rw [if_pos e2, hmx]
        exact ⟨u, fun w2 h2 => by rw [e1]; exact k1 w2 ⟨fun q hq => (h2.heap q (Nat.lt_of_lt_of_le hq e0.size)).trans (e0.heap q hq), Nat.le_trans e0.size h2.size, e0.kept.trans h2.kept⟩, hk⟩
      unfold stepS at hb
      unfold stepS
      split
      · rename_i hw
        rw [if_pos hw, hmy] at hb
        rw [hmy]
        cases my with
        | p => obtain ⟨v, j1, j2⟩ := hb; exact ⟨v, j1, fin _ _ (Ext.refl w) (ex a v) ((wx a v).trans hwx) j2⟩
        | r => obtain ⟨v, j1, j2⟩ := hb; exact ⟨v, j1, fin _ _ (Ext.refl w) (ex a v) ((wx a v).trans hwx) j2⟩
        | n => obtain ⟨bo, f, j1, j2⟩ := hb; exact ⟨bo, f, j1, fin _ _ ((Ext.refl w).alloc bo) (ex a _) ((wx a _).trans hwx) j2⟩
        | w => simp [mdOk] at hm
      · rename_i hw
        rw [if_neg hw] at hb
        exact fin _ _ (Ext.refl w) (ex a _) ((wx a _).trans hwx) hb
    | n =>
      have hp : my = .p := by cases my <;> simp [mdOk] at hm <;> rfl
      subst hp
      obtain ⟨bo, f, k1, k2⟩ := h
      have hb := back _ _ k2
      by_cases hwy : Region.wanted y (yielded ops a.tmps) = true
      case neg =>
        rw [stepS_neg hwy] at hb
        rw [stepS_neg hwy, stepS_pos (by rw [wx]; exact hwx), hmx]
        exact ⟨bo, f, fun w' => by rw [ex]; exact k1 w', hb⟩
      case pos =>
        rw [stepS_pos hwy, hmy] at hb
        rw [stepS_pos hwy, hmy]
        obtain ⟨v, j1, j2⟩ := hb
        refine ⟨v, j1, ?_⟩
        show stepS P none ops x K (a.put y.dst v) w
        rw [stepS_pos (by rw [wx]; exact hwx), hmx]
        exact ⟨bo, f, fun w' => by rw [ex]; exact k1 w', j2⟩
    | w =>
      -- then y is pure
      have hp : my = .p := by cases my <;> simp [mdOk] at hm <;> rfl
      subst hp
      simp only [doS] at h
      by_cases hwy : Region.wanted y (yielded ops a.tmps) = true
      case neg =>
        rw [stepS_neg hwy, stepS_pos (by rw [wx]; exact hwx), hmx]
        simp only [doS]
        rw [ex]
        generalize (execOp a.eval x).run P w = r at h ⊢
        cases r with
        | ok n w' =>
          cases n <;> simp only [afterW, afterN] at h ⊢ <;> first
            | exact h.elim
            | (rw [stepS_neg (by rw [wy]; exact hwy), hc] at h; exact h)
            | exact Calls.mono h (fun e w'' ⟨v, he, hk⟩ => ⟨v, he, by rw [stepS_neg (by rw [wy]; exact hwy), hc] at hk; exact hk⟩)
        | halt n w' => exact h.elim
      case pos =>
        have one : ∀ (u : Value) (w1 : World), stepS P none ops y K (a.put x.dst u) w1 → ∃ v, (∀ w, (execOp a.eval y).run P w = .ok (.value v) w) ∧ K ((a.put y.dst v).put x.dst u) w1 := by
          intro u w1 hh
          unfold stepS at hh
          rw [wy, if_pos hwy, hmy] at hh
          obtain ⟨v, j1, j2⟩ := hh
          rw [ey] at j1
          rw [hc] at j2
          exact ⟨v, j1, j2⟩
        rw [stepS_pos hwy, hmy]
        have ux : ∀ v, (∀ w, (execOp a.eval y).run P w = .ok (.value v) w) → ∀ v', (∀ w, (execOp a.eval y).run P w = .ok (.value v') w) → v' = v := by
          intro v e1 v' e2
          have := (e2 w).symm.trans (e1 w)
          simpa using this
        suffices hs : ∃ v, (∀ w, (execOp a.eval y).run P w = .ok (.value v) w) ∧ afterW P none x (a.put y.dst v) K ((execOp a.eval x).run P w) by
          obtain ⟨v, e1, e2⟩ := hs
          refine ⟨v, e1, ?_⟩
          show stepS P none ops x K (a.put y.dst v) w
          rw [stepS_pos (by rw [wx]; exact hwx), hmx]
          simp only [doS]
          rw [ex]
          exact e2
        generalize (execOp a.eval x).run P w = r at h ⊢
        cases r with
        | ok n w' =>
          cases n <;> simp only [afterW, afterN] at h ⊢ <;> first
            | exact one _ _ h
            | exact h.elim
            | skip
          obtain ⟨e, w'', fr, ⟨v0, _, hk0⟩, _⟩ := h []
          obtain ⟨v, e1, _⟩ := one _ _ hk0
          refine ⟨v, e1, Calls.mono h (fun e w'' ⟨v1, he, hk⟩ => ⟨v1, he, ?_⟩)⟩
          obtain ⟨v', e2, e3⟩ := one _ _ hk
          rw [ux v e1 v' e2] at e3
          exact e3
        | halt n w' => exact h.elim
end

def runI (P : Program) (EE : EX) (ops : Array Oper) (K : Act → World → Prop) : List Nat → Act → World → Prop
  | [] => K
  | i :: r => match ops[i]? with
    | none => fun _ _ => False
    | some o => stepS P EE ops o (runI P EE ops K r)

theorem runI_cons {K : Act → World → Prop} {i : Nat} {r : List Nat} {o : Oper} (hi : ops[i]? = some o) : runI P none ops K (i :: r) = stepS P none ops o (runI P none ops K r) := by
  simp [runI, hi]

theorem runI_of_runS {K : Act → World → Prop} : ∀ (l : List Oper) (k : Nat), (∀ j, l[j]? = ops[k + j]?) → runI P none ops K (List.range' k l.length) = runS P none ops K l := by
  intro l
  induction l with
  | nil => intro k _; simp [runI, runS]
  | cons o l ih =>
    intro k h
    have h0 : ops[k]? = some o := by simpa using (h 0).symm
    simp only [List.length_cons, List.range'_succ, runS]
    rw [runI_cons h0, ih (k + 1) (fun j => by have := h (j + 1); simpa [Nat.add_assoc, Nat.add_comm 1 j] using this)]

theorem runI_front {K : Act → World → Prop} (hs : Region.noSelect ops = true) {i : Nat} {oi : Oper} (hi : ops[i]? = some oi) (s : List Nat) : ∀ (p : List Nat), (∀ j ∈ p, ∃ oj, ops[j]? = some oj ∧ indep P ops oj oi = true) →
    ∀ (a : Act) (w : World), runI P none ops K (p ++ i :: s) a w → stepS P none ops oi (runI P none ops K (p ++ s)) a w
  | [], _, a, w, h => by rw [List.nil_append, runI_cons hi] at h; exact h
  | j :: p, hp, a, w, h => by
    obtain ⟨oj, hj, hind⟩ := hp j (List.mem_cons_self ..)
    rw [List.cons_append, runI_cons hj] at h
    rw [List.cons_append, runI_cons hj]
    refine stepS_comm (fun cs b => Region.noSelect_spec hs j oj cs b hj) (fun cs b => Region.noSelect_spec hs i oi cs b hi) hind ?_
    exact stepS_mono (fun a w hk => runI_front hs hi s p (fun k hk => hp k (List.mem_cons_of_mem _ hk)) a w hk) h

/-- the look at a region: of two operations that may change places neither writes what the other reads -/
def seqB (P : Program) (ops : Array Oper) : Bool :=
  Region.noSelect ops &&
  (List.range ops.size).all fun i => match ops[i]? with
    | none => false
    | some oi => (oi.after.all fun e => !Region.binds .any e || decide (e.on < i)) &&
      (List.range i).all fun j => match ops[j]? with
        | none => false
        | some oj => (oi.after.any fun e => Region.binds .any e && (e.on == j || (decide (j < e.on) && ((Region.before ops).getD e.on 0).testBit j))) || indep P ops oj oi

/-- what is certified: the bits of 'before' lead down by edges -/
def befB (ops : Array Oper) : Bool :=
  (List.range ops.size).all fun i => match ops[i]? with
    | none => false
    | some oi => (List.range i).all fun j => !((Region.before ops).getD i 0).testBit j || (oi.after.any fun e => Region.binds .any e && (e.on == j || (decide (j < e.on) && ((Region.before ops).getD e.on 0).testBit j)))

theorem getD_rep_false (m j : Nat) : (Array.replicate m false).getD j false = false := by
  rw [Array.getD_eq_getD_getElem?, Array.getElem?_replicate]
  split <;> rfl

theorem before_listed (hs : seqB P ops = true) (hb : befB ops = true) {listed : Array Bool}
    (closed : ∀ i oi, ops[i]? = some oi → listed.getD i false = true → ∀ e ∈ oi.after, Region.binds .any e = true → listed.getD e.on false = true) :
    ∀ (i j : Nat) (oi : Oper), ops[i]? = some oi → j < i → (∀ e ∈ oi.after, Region.binds .any e = true → listed.getD e.on false = true) →
      (oi.after.any fun e => Region.binds .any e && (e.on == j || (decide (j < e.on) && ((Region.before ops).getD e.on 0).testBit j))) = true → listed.getD j false = true := by
  intro i
  induction i using Nat.strongRecOn with
  | _ i ih =>
    intro j oi hi hji hall hany
    obtain ⟨e, he, h3⟩ := Array.any_eq_true'.1 hany
    simp only [Bool.and_eq_true, Bool.or_eq_true, beq_iff_eq, decide_eq_true_eq] at h3
    obtain ⟨hbe, hej⟩ := h3
    rcases hej with hej | ⟨hje, hej⟩
    · rw [← hej]; exact hall e he hbe
    · have hlt : e.on < i := by
        simp only [seqB, Bool.and_eq_true, List.all_eq_true, List.mem_range] at hs
        have h1 := hs.2 i (Array.getElem?_eq_some_iff.1 hi).1
        simp only [hi, Bool.and_eq_true, Array.all_eq_true_iff_forall_mem] at h1
        have h2 := h1.1 e he
        simpa [hbe] using h2
      have hel := hall e he hbe
      have hsz : e.on < ops.size := Nat.lt_trans hlt (Array.getElem?_eq_some_iff.1 hi).1
      have ho : ops[e.on]? = some ops[e.on] := Array.getElem?_eq_getElem hsz
      refine ih e.on hlt j _ ho hje (closed e.on _ ho hel) ?_
      simp only [befB, List.all_eq_true, List.mem_range] at hb
      have h1 := hb e.on hsz
      simp only [ho, List.all_eq_true, List.mem_range] at h1
      have h2 := h1 j hje
      simpa only [hej, Bool.not_true, Bool.false_or] using h2

theorem seqB_edge (hs : seqB P ops = true) {i : Nat} {oi : Oper} (hi : ops[i]? = some oi) : ∀ e ∈ oi.after, Region.binds .any e = true → e.on < i := by
  intro e he hbe
  simp only [seqB, Bool.and_eq_true, List.all_eq_true, List.mem_range] at hs
  have h1 := hs.2 i (Array.getElem?_eq_some_iff.1 hi).1
  simp only [hi, Bool.and_eq_true, Array.all_eq_true_iff_forall_mem] at h1
  have h2 := h1.1 e he
  simpa [hbe] using h2

theorem seqB_pair (hs : seqB P ops = true) {i j : Nat} {oi oj : Oper} (hi : ops[i]? = some oi) (hj : ops[j]? = some oj) (hji : j < i) :
    (oi.after.any fun e => Region.binds .any e && (e.on == j || (decide (j < e.on) && ((Region.before ops).getD e.on 0).testBit j))) = true ∨ indep P ops oj oi = true := by
  simp only [seqB, Bool.and_eq_true, List.all_eq_true, List.mem_range] at hs
  have h1 := hs.2 i (Array.getElem?_eq_some_iff.1 hi).1
  simp only [hi, Bool.and_eq_true, List.all_eq_true, List.mem_range] at h1
  have h2 := h1.2 j hji
  simpa only [hj, Bool.or_eq_true] using h2

theorem wpAny_of_runI {Q : Exit → Act → World → Prop} (hs : seqB P ops = true) (hb : befB ops = true) : ∀ (fuel : Nat) (listed : Array Bool) (a : Act) (w : World),
    listed.size = ops.size → ((List.range ops.size).filter fun k => !listed.getD k true).length ≤ fuel →
    (∀ i oi, ops[i]? = some oi → listed.getD i false = true → ∀ e ∈ oi.after, Region.binds .any e = true → listed.getD e.on false = true) →
    runI P none ops (Q .normal) ((List.range ops.size).filter fun k => !listed.getD k true) a w → wpAny P .any ops Q fuel listed a w := by
  have hsel : Region.noSelect ops = true := by simp only [seqB, Bool.and_eq_true] at hs; exact hs.1
  have empty : ∀ (listed : Array Bool), listed.size = ops.size → Region.ready .any ops listed = [] → ((List.range ops.size).filter fun k => !listed.getD k true) = [] := by
    intro listed hsz hr
    have all : ∀ m, m < ops.size → listed.getD m true = true := by
      intro m
      induction m using Nat.strongRecOn with
      | _ m ih =>
        intro hm
        cases hl : listed.getD m true with
        | true => rfl
        | false =>
          have : m ∈ Region.ready .any ops listed := by
            rw [mem_ready]
            refine ⟨hl, ops[m], Array.getElem?_eq_getElem hm, fun e he hbe => ?_⟩
            have hlt := seqB_edge hs (Array.getElem?_eq_getElem hm) e he hbe
            have h1 := ih e.on hlt (Nat.lt_trans hlt hm)
            have hlt2 : e.on < listed.size := by omega
            simp [hlt2] at h1 ⊢
            exact h1
          rw [hr] at this
          cases this
    rw [List.filter_eq_nil_iff]
    intro m hm
    simp only [List.mem_range] at hm
    simp [all m hm]
  intro fuel
  induction fuel with
  | zero =>
    intro listed a w hsz hlen _ h
    have hnil := List.eq_nil_of_length_eq_zero (Nat.le_zero.1 hlen)
    rw [hnil] at h
    refine ⟨?_, h⟩
    rw [List.eq_nil_iff_forall_not_mem]
    intro i hi
    obtain ⟨h0, o, ho, _⟩ := mem_ready.1 hi
    have : i ∈ ((List.range ops.size).filter fun k => !listed.getD k true) := by
      rw [List.mem_filter, List.mem_range]
      exact ⟨(Array.getElem?_eq_some_iff.1 ho).1, by simp [h0]⟩
    rw [hnil] at this
    cases this
  | succ fuel ih =>
    intro listed a w hsz hlen closed h
    refine ⟨fun hr => ?_, fun i hi => ?_⟩
    · rw [empty listed hsz hr] at h; exact h
    · obtain ⟨h0, oi, ho, hall⟩ := mem_ready.1 hi
      have hlt : i < ops.size := (Array.getElem?_eq_some_iff.1 ho).1
      have hsplit : List.range ops.size = List.range i ++ i :: List.range' (i + 1) (ops.size - i - 1) := by
        rw [List.range_eq_range', List.range_eq_range', show ops.size = i + (1 + (ops.size - i - 1)) from by omega, ← List.range'_append_1, ← List.range'_append_1]
        simp
      have hf : ∀ (ld : Array Bool), ((List.range ops.size).filter fun k => !ld.getD k true) =
          ((List.range i).filter fun k => !ld.getD k true) ++ ((if !ld.getD i true then [i] else []) ++ ((List.range' (i + 1) (ops.size - i - 1)).filter fun k => !ld.getD k true)) := by
        intro ld
        rw [hsplit, List.filter_append, List.filter_cons]
        congr 1
        split <;> simp
      have hfi := hf listed
      simp only [h0, Bool.not_false, if_true, List.singleton_append] at hfi
      have hset : ∀ k, k ≠ i → (listed.setIfInBounds i true).getD k true = listed.getD k true := fun k hk => getD_set_ne true (Ne.symm hk)
      have hfs := hf (listed.setIfInBounds i true)
      have hi' : (listed.setIfInBounds i true).getD i true = true := by
        have : i < listed.size := by omega
        simp [this]
      rw [hi'] at hfs
      simp only [Bool.not_true, Bool.false_eq_true, if_false, List.nil_append] at hfs
      have c1 : ((List.range i).filter fun k => !(listed.setIfInBounds i true).getD k true) = ((List.range i).filter fun k => !listed.getD k true) :=
        List.filter_congr fun k hk => by rw [hset k (by have := List.mem_range.1 hk; omega)]
      have c2 : ((List.range' (i + 1) (ops.size - i - 1)).filter fun k => !(listed.setIfInBounds i true).getD k true) = ((List.range' (i + 1) (ops.size - i - 1)).filter fun k => !listed.getD k true) :=
        List.filter_congr fun k hk => by rw [hset k (by have := List.mem_range'.1 hk; omega)]
      rw [c1, c2] at hfs
      rw [hfi] at h
      have h1 := runI_front hsel ho _ _ (fun j hj => by
        rw [List.mem_filter, List.mem_range] at hj
        have hjs : j < ops.size := by omega
        refine ⟨ops[j], Array.getElem?_eq_getElem hjs, ?_⟩
        rcases seqB_pair hs ho (Array.getElem?_eq_getElem hjs) hj.1 with hd | hd
        · have := before_listed hs hb closed i j oi ho hj.1 hall hd
          have hj2 := hj.2
          have hlt2 : j < listed.size := by omega
          simp [hlt2] at this hj2
          rw [this] at hj2
          cases hj2
        · exact hd) a w h
      refine stepS_wpOp (EE := none) trivial ho (stepS_mono (fun a' w' hk => ih (listed.setIfInBounds i true) a' w' (by simp [hsz]) ?_ ?_ ?_) h1)
      · rw [hfs]
        rw [hfi] at hlen
        simp only [List.length_append, List.length_cons] at hlen ⊢
        omega
      · intro k ok hk2 hlk e he hbe
        by_cases hki : k = i
        · subst hki
          rw [ho] at hk2
          obtain rfl := Option.some.inj hk2
          exact getD_set_true (hall e he hbe)
        · rw [getD_set_ne false (Ne.symm hki)] at hlk
          exact getD_set_true (closed k ok hk2 hlk e he hbe)
      · rw [hfs]
        exact hk

/-- a region that draws its order, by one walk in the text's order -/
theorem wp_region_text {Q : Exit → Act → World → Prop} {id : Nat} {l : List Oper} {a : Act} {w : World} (hm : P.follows .mixedOrders = true) (hs : (seqB P l.toArray && befB l.toArray) = true)
    (h : runS P none l.toArray (Q .normal) l a w.drew) : (Code.region id l.toArray true).wp P Q a w := by
  rw [Bool.and_eq_true] at hs
  refine wp_region_any hm (wpAny_of_runI hs.1 hs.2 _ _ _ _ (by simp) ?_ ?_ ?_)
  · exact Nat.le_trans (List.length_filter_le _ _) (by simp)
  · intro i oi _ hl
    rw [getD_rep_false] at hl
    cases hl
  · have e : ((List.range l.toArray.size).filter fun k => !(Array.replicate l.toArray.size false).getD k true) = List.range' 0 l.length := by
      rw [List.filter_eq_self.2, List.range_eq_range']
      · simp
      · intro k hk
        have := List.mem_range.1 hk
        simp at this
        simp [this]
    rw [e, runI_of_runS l 0 (by simp)]
    exact h

/-! ### several orders, where one does not serve -/
inductive Pl where
  | done
  | take (i : Nat) (t : Pl)
  | fork (i : Nat) (t u : Pl)
  | stop

def stepI (P : Program) (EE : EX) (ops : Array Oper) (i : Nat) (K : Act → World → Prop) : Act → World → Prop := match ops[i]? with
  | none => fun _ _ => False
  | some o => stepS P EE ops o K
theorem stepI_eq {K : Act → World → Prop} {i : Nat} {o : Oper} (hi : ops[i]? = some o) : stepI P EE ops i K = stepS P EE ops o K := by simp [stepI, hi]

def runT (P : Program) (EE : EX) (ops : Array Oper) (K : Act → World → Prop) : Pl → Act → World → Prop
  | .done, a, w => K a w
  | .take i t, a, w => stepI P EE ops i (runT P EE ops K t) a w
  | .fork i t u, a, w => stepI P EE ops i (runT P EE ops K t) a w ∧ runT P EE ops K u a w
  | .stop, _, _ => True

/-- what is not listed and does not wait for i may change places with i -/
def freeT (P : Program) (ops : Array Oper) (listed : Array Bool) (i : Nat) : Bool := match ops[i]? with
  | none => false
  | some oi => (List.range ops.size).all fun j => j == i || listed.getD j true || match ops[j]? with
    | some oj => ((Region.before ops).getD j 0).testBit i || indep P ops oi oj
    | none => false

def forksT : Pl → List Nat
  | .fork i _ u => i :: forksT u
  | _ => []
def chkT (P : Program) (ops : Array Oper) : Bool → Array Bool → Pl → Bool
  | true, listed, .done => (Region.ready .any ops listed).isEmpty
  | true, listed, .take i t => (Region.ready .any ops listed).contains i && freeT P ops listed i && chkT P ops true (listed.setIfInBounds i true) t
  | true, listed, .fork i t u => (forksT (.fork i t u) == Region.ready .any ops listed) && chkT P ops true (listed.setIfInBounds i true) t && chkT P ops false listed u
  | true, _, .stop => false
  | false, listed, .fork i t u => chkT P ops true (listed.setIfInBounds i true) t && chkT P ops false listed u
  | false, _, .stop => true
  | false, _, _ => false

/-- the bits of 'before' are borne by edges: who waits for i by them is not ready while i is not listed -/
def edgeB (ops : Array Oper) : Bool :=
  (List.range ops.size).all fun j => match ops[j]? with
    | none => false
    | some oj => (oj.after.all fun e => !Region.binds .any e || decide (e.on < j)) && (List.range ops.size).all fun i => !((Region.before ops).getD j 0).testBit i || (oj.after.any fun e => Region.binds .any e && (e.on == i || ((Region.before ops).getD e.on 0).testBit i))

theorem stepS_false {o : Oper} {a : Act} {w : World} (h : stepS P none ops o (fun _ _ => False) a w) : False := by
  unfold stepS at h
  split at h
  · generalize cls P o.op = m at h
    cases m with
    | p => obtain ⟨v, _, h⟩ := h; exact h
    | r => obtain ⟨v, _, h⟩ := h; exact h
    | n => obtain ⟨b, f, _, h⟩ := h; exact h
    | w =>
      simp only [doS] at h
      generalize (execOp a.eval o).run P w = r at h
      cases r with
      | ok x w' =>
        cases x <;> simp only [afterW, afterN] at h
        obtain ⟨e, w'', fr, ⟨v, _, hk⟩, _⟩ := h []
        exact hk
      | halt x w' => exact h
  · exact h

def runA (P : Program) (EE : EX) (ops : Array Oper) (K : Act → World → Prop) : Nat → Array Bool → Act → World → Prop
  | 0, listed, a, w => Region.ready .any ops listed = [] ∧ K a w
  | f + 1, listed, a, w => (Region.ready .any ops listed = [] → K a w) ∧ ∀ i ∈ Region.ready .any ops listed, stepI P EE ops i (runA P EE ops K f (listed.setIfInBounds i true)) a w

theorem runA_wpAny {Q : Exit → Act → World → Prop} : ∀ (f : Nat) (listed : Array Bool) (a : Act) (w : World), runA P none ops (Q .normal) f listed a w → wpAny P .any ops Q f listed a w
  | 0, _, _, _, h => h
  | f + 1, listed, a, w, h => ⟨h.1, fun i hi => by
    have h1 := h.2 i hi
    obtain ⟨_, o, ho, _⟩ := mem_ready.1 hi
    rw [stepI_eq ho] at h1
    exact stepS_wpOp (EE := none) trivial ho (stepS_mono (fun a w hk => runA_wpAny f _ a w hk) h1)⟩

theorem waits_not_ready (he : edgeB ops = true) {listed : Array Bool} (hsz : listed.size = ops.size)
    (closed : ∀ i oi, ops[i]? = some oi → listed.getD i false = true → ∀ e ∈ oi.after, Region.binds .any e = true → listed.getD e.on false = true) :
    ∀ (j i : Nat), ((Region.before ops).getD j 0).testBit i = true → i < ops.size → listed.getD i true = false → j ∉ Region.ready .any ops listed := by
  intro j
  induction j using Nat.strongRecOn with
  | _ j ih =>
    intro i hbit hi hun hj
    obtain ⟨_, oj, hoj, hall⟩ := mem_ready.1 hj
    have hjs := (Array.getElem?_eq_some_iff.1 hoj).1
    have hun' : listed.getD i false = false := by
      have : i < listed.size := by omega
      simp [this] at hun ⊢
      exact hun
    have key : ∀ (q : Nat), q < ops.size → ((Region.before ops).getD q 0).testBit i = true → listed.getD q false = true → False := by
      intro q
      induction q using Nat.strongRecOn with
      | _ q ihq =>
        intro hq hb hl
        have h1 := he
        simp only [edgeB, List.all_eq_true, List.mem_range] at h1
        have h2 := h1 q hq
        have hoq : ops[q]? = some ops[q] := Array.getElem?_eq_getElem hq
        simp only [hoq, Bool.and_eq_true, List.all_eq_true, List.mem_range, Array.all_eq_true_iff_forall_mem] at h2
        have h3 := h2.2 i hi
        simp only [hb, Bool.not_true, Bool.false_or] at h3
        obtain ⟨e, hme, h4⟩ := Array.any_eq_true'.1 h3
        simp only [Bool.and_eq_true, Bool.or_eq_true, beq_iff_eq] at h4
        have hle := closed q _ hoq hl e hme h4.1
        have hlt : e.on < q := by simpa [h4.1] using h2.1 e hme
        rcases h4.2 with h5 | h5
        · rw [h5, hun'] at hle; cases hle
        · exact ihq e.on hlt (by omega) h5 hle
    have h1 := he
    simp only [edgeB, List.all_eq_true, List.mem_range] at h1
    have h2 := h1 j hjs
    simp only [hoj, Bool.and_eq_true, List.all_eq_true, List.mem_range, Array.all_eq_true_iff_forall_mem] at h2
    have h3 := h2.2 i hi
    simp only [hbit, Bool.not_true, Bool.false_or] at h3
    obtain ⟨e, hme, h4⟩ := Array.any_eq_true'.1 h3
    simp only [Bool.and_eq_true, Bool.or_eq_true, beq_iff_eq] at h4
    have hle := hall e hme h4.1
    have hlt : e.on < j := by simpa [h4.1] using h2.1 e hme
    rcases h4.2 with h5 | h5
    · rw [h5, hun'] at hle; cases hle
    · exact key e.on (by omega) h5 hle

theorem closed_set {listed : Array Bool} {i : Nat} (hi : i ∈ Region.ready .any ops listed)
    (closed : ∀ i oi, ops[i]? = some oi → listed.getD i false = true → ∀ e ∈ oi.after, Region.binds .any e = true → listed.getD e.on false = true) :
    ∀ k ok, ops[k]? = some ok → (listed.setIfInBounds i true).getD k false = true → ∀ e ∈ ok.after, Region.binds .any e = true → (listed.setIfInBounds i true).getD e.on false = true := by
  intro k ok hk2 hlk e he hbe
  obtain ⟨_, oi, ho, hall⟩ := mem_ready.1 hi
  by_cases hki : k = i
  · subst hki
    rw [ho] at hk2
    obtain rfl := Option.some.inj hk2
    exact getD_set_true (hall e he hbe)
  · rw [getD_set_ne false (Ne.symm hki)] at hlk
    exact getD_set_true (closed k ok hk2 hlk e he hbe)

theorem runA_take {K : Act → World → Prop} (hs : Region.noSelect ops = true) (he : edgeB ops = true) {i : Nat} {oi : Oper} (ho : ops[i]? = some oi) : ∀ (f : Nat) (listed : Array Bool) (a : Act) (w : World), listed.size = ops.size →
    (∀ i oi, ops[i]? = some oi → listed.getD i false = true → ∀ e ∈ oi.after, Region.binds .any e = true → listed.getD e.on false = true) →
    i ∈ Region.ready .any ops listed → freeT P ops listed i = true → stepS P none ops oi (runA P none ops K f (listed.setIfInBounds i true)) a w → runA P none ops K (f + 1) listed a w := by
  intro f
  induction f with
  | zero =>
    intro listed a w hsz closed hi hfree h
    refine ⟨fun hr => (by rw [hr] at hi; cases hi), fun j hj => ?_⟩
    by_cases hji : j = i
    · subst hji; rw [stepI_eq ho]; exact h
    · exact (stepS_false (stepS_mono (fun a' w' hk => (by
        have := ready_mono hj hji
        rw [hk.1] at this
        exact absurd this List.not_mem_nil)) h)).elim
  | succ f ih =>
    intro listed a w hsz closed hi hfree h
    refine ⟨fun hr => (by rw [hr] at hi; cases hi), fun j hj => ?_⟩
    by_cases hji : j = i
    · subst hji; rw [stepI_eq ho]; exact h
    · obtain ⟨hjun, oj, hoj, hallj⟩ := mem_ready.1 hj
      have hjs := (Array.getElem?_eq_some_iff.1 hoj).1
      have hind : indep P ops oi oj = true := by
        have h1 := hfree
        simp only [freeT, ho, List.all_eq_true, List.mem_range] at h1
        have h2 := h1 j hjs
        simp only [hoj, hjun, Bool.or_false, Bool.or_eq_true, beq_iff_eq, hji, false_or] at h2
        rcases h2 with h2 | h2
        · exact absurd hj (waits_not_ready he hsz closed j i h2 (Array.getElem?_eq_some_iff.1 ho).1 (mem_ready.1 hi).1)
        · exact h2
      rw [stepI_eq hoj]
      have h2 : stepS P none ops oi (stepS P none ops oj (runA P none ops K f ((listed.setIfInBounds i true).setIfInBounds j true))) a w :=
        stepS_mono (fun a' w' hk => by
          have := hk.2 j (ready_mono hj hji)
          rw [stepI_eq hoj] at this
          exact this) h
      have h3 := stepS_comm (fun cs b => Region.noSelect_spec hs i oi cs b ho) (fun cs b => Region.noSelect_spec hs j oj cs b hoj) hind h2
      refine stepS_mono (fun a' w' hk => ih (listed.setIfInBounds j true) a' w' (by simp [hsz]) (closed_set hj closed) (ready_mono hi (Ne.symm hji)) ?_ ?_) h3
      · have h1 := hfree
        simp only [freeT, ho, List.all_eq_true, List.mem_range] at h1 ⊢
        intro q hq
        have h2 := h1 q hq
        by_cases hqj : q = j
        · subst hqj
          have : q < listed.size := by omega
          simp [this]
        · rw [getD_set_ne true (Ne.symm hqj)]; exact h2
      · rw [Array.setIfInBounds_comm _ _ hji]; exact hk

theorem runA_of_runT {K : Act → World → Prop} (hs : Region.noSelect ops = true) (he : edgeB ops = true) : ∀ (p : Pl) (f : Nat) (listed : Array Bool), listed.size = ops.size →
    (∀ i oi, ops[i]? = some oi → listed.getD i false = true → ∀ e ∈ oi.after, Region.binds .any e = true → listed.getD e.on false = true) →
    ((List.range ops.size).filter fun k => !listed.getD k true).length ≤ f →
    (chkT P ops true listed p = true → ∀ a w, runT P none ops K p a w → runA P none ops K f listed a w) ∧
    (chkT P ops false listed p = true → ∀ i ∈ forksT p, i ∈ Region.ready .any ops listed → ∀ a w, runT P none ops K p a w → ∀ f', f = f' + 1 → stepI P none ops i (runA P none ops K f' (listed.setIfInBounds i true)) a w) := by
  have count : ∀ (listed : Array Bool) (i : Nat), listed.size = ops.size → i ∈ Region.ready .any ops listed → ∀ f, ((List.range ops.size).filter fun k => !listed.getD k true).length ≤ f + 1 →
      ((List.range ops.size).filter fun k => !(listed.setIfInBounds i true).getD k true).length ≤ f := by
    intro listed i hsz hi f hf
    obtain ⟨h0, oi, ho, _⟩ := mem_ready.1 hi
    have hlt := (Array.getElem?_eq_some_iff.1 ho).1
    have hlt2 : i < listed.size := by omega
    have hsub : ((List.range ops.size).filter fun k => !(listed.setIfInBounds i true).getD k true).length < ((List.range ops.size).filter fun k => !listed.getD k true).length := by
      rw [← List.countP_eq_length_filter, ← List.countP_eq_length_filter]
      have hmem : i ∈ List.range ops.size := List.mem_range.2 hlt
      obtain ⟨s, t, hst⟩ := List.append_of_mem hmem
      rw [hst]
      simp only [List.countP_append, List.countP_cons]
      have e1 : (!(listed.setIfInBounds i true).getD i true) = false := by simp [hlt2]
      have e2 : (!listed.getD i true) = true := by rw [h0]; rfl
      have le1 : ∀ l : List Nat, List.countP (fun k => !(listed.setIfInBounds i true).getD k true) l ≤ List.countP (fun k => !listed.getD k true) l := by
        intro l
        refine List.countP_mono_left fun k _ hk => ?_
        by_cases hki : k = i
        · subst hki; rw [e1] at hk; cases hk
        · rw [getD_set_ne true (Ne.symm hki)] at hk; exact hk
      have := le1 s
      have := le1 t
      rw [e1, e2]
      simp only [Bool.false_eq_true, if_false, if_true]
      omega
    omega
  have pos : ∀ (listed : Array Bool) (i : Nat), i ∈ Region.ready .any ops listed → ∀ f, ((List.range ops.size).filter fun k => !listed.getD k true).length ≤ f → ∃ f', f = f' + 1 := by
    intro listed i hi f hf
    obtain ⟨h0, oi, ho, _⟩ := mem_ready.1 hi
    have : i ∈ ((List.range ops.size).filter fun k => !listed.getD k true) := by
      rw [List.mem_filter, List.mem_range]
      exact ⟨(Array.getElem?_eq_some_iff.1 ho).1, by simp [h0]⟩
    have := List.length_pos_of_mem this
    exact ⟨f - 1, by omega⟩
  intro p
  induction p with
  | done =>
    intro f listed hsz closed hf
    refine ⟨fun hc a w h => ?_, fun hc => ?_⟩
    · have hr : Region.ready .any ops listed = [] := by simpa [chkT] using hc
      cases f with
      | zero => exact ⟨hr, h⟩
      | succ f => exact ⟨fun _ => h, by rw [hr]; simp⟩
    · simp [chkT] at hc
  | stop =>
    intro f listed hsz closed hf
    exact ⟨fun hc => by simp [chkT] at hc, fun hc i hi => by simp [forksT] at hi⟩
  | take i t ih =>
    intro f listed hsz closed hf
    refine ⟨fun hc a w h => ?_, fun hc => by simp [chkT] at hc⟩
    simp only [chkT, Bool.and_eq_true, List.contains_iff_mem] at hc
    obtain ⟨⟨hi, hfree⟩, hc⟩ := hc
    obtain ⟨f', rfl⟩ := pos listed i hi f hf
    obtain ⟨_, oi, ho, _⟩ := mem_ready.1 hi
    refine runA_take hs he ho f' listed a w hsz closed hi hfree ?_
    have h' : stepI P none ops i (runT P none ops K t) a w := h
    rw [stepI_eq ho] at h'
    exact stepS_mono (fun a' w' hk => (ih f' (listed.setIfInBounds i true) (by simp [hsz]) (closed_set hi closed) (count listed i hsz hi f' hf)).1 hc a' w' hk) h'
  | fork i t u iht ihu =>
    intro f listed hsz closed hf
    have one : chkT P ops true (listed.setIfInBounds i true) t = true → i ∈ Region.ready .any ops listed → ∀ a w, stepI P none ops i (runT P none ops K t) a w → ∀ f', f = f' + 1 → stepI P none ops i (runA P none ops K f' (listed.setIfInBounds i true)) a w := by
      intro hc hi a w h f' hff
      subst hff
      obtain ⟨_, oi, ho, _⟩ := mem_ready.1 hi
      rw [stepI_eq ho] at h ⊢
      exact stepS_mono (fun a' w' hk => (iht f' (listed.setIfInBounds i true) (by simp [hsz]) (closed_set hi closed) (count listed i hsz hi f' hf)).1 hc a' w' hk) h
    have two : chkT P ops true (listed.setIfInBounds i true) t = true → chkT P ops false listed u = true → ∀ q ∈ forksT (.fork i t u), q ∈ Region.ready .any ops listed → ∀ a w, runT P none ops K (.fork i t u) a w → ∀ f', f = f' + 1 → stepI P none ops q (runA P none ops K f' (listed.setIfInBounds q true)) a w := by
      intro hc1 hc2 q hq hqr a w h f' hff
      rcases List.mem_cons.1 hq with rfl | hq
      · exact one hc1 hqr a w h.1 f' hff
      · exact (ihu f listed hsz closed hf).2 hc2 q hq hqr a w h.2 f' hff
    refine ⟨fun hc a w h => ?_, fun hc q hq hqr a w h f' hff => ?_⟩
    · simp only [chkT, Bool.and_eq_true, beq_iff_eq] at hc
      obtain ⟨⟨hfk, hc1⟩, hc2⟩ := hc
      have hi : i ∈ Region.ready .any ops listed := by rw [← hfk]; exact List.mem_cons_self ..
      obtain ⟨f', rfl⟩ := pos listed i hi f hf
      refine ⟨fun hr => (by rw [hr] at hi; cases hi), fun q hq => two hc1 hc2 q (by rw [hfk]; exact hq) hq a w h f' rfl⟩
    · simp only [chkT, Bool.and_eq_true] at hc
      exact two hc.1 hc.2 q hq hqr a w h f' hff

/-- a region that draws its order, by the orders of a plan -/
theorem wp_region_plan {Q : Exit → Act → World → Prop} {id : Nat} {l : List Oper} {a : Act} {w : World} (p : Pl) (hm : P.follows .mixedOrders = true)
    (hc : (Region.noSelect l.toArray && edgeB l.toArray && chkT P l.toArray true (Array.replicate l.length false) p) = true)
    (h : runT P none l.toArray (Q .normal) p a w.drew) : (Code.region id l.toArray true).wp P Q a w := by
  simp only [Bool.and_eq_true] at hc
  refine wp_region_any hm (runA_wpAny _ _ _ _ ?_)
  have hsz : (Array.replicate l.toArray.size false).size = l.toArray.size := by simp
  refine (runA_of_runT hc.1.1 hc.1.2 p l.toArray.size (Array.replicate l.toArray.size false) hsz (fun i oi _ hl => ?_) ?_).1 (by simpa using hc.2) a w.drew h
  · rw [getD_rep_false] at hl; cases hl
  · exact Nat.le_trans (List.length_filter_le _ _) (by simp)

end
end Go.Proofs.Ytnmfpgfgjjmfhaa
