/- Ranges over functions. -/
import Derived.Test.YtnmfpgfgjjmfhaaSh
import Derived.RangeFuncIn
import Derived.RangeFuncLeaves
import Derived.RangeFuncRecord
import Derived.RangeFuncCalls
import Derived.TacticsIn
set_option linter.unusedVariables false
set_option linter.unusedSimpArgs false
namespace Go.Proofs.Ytnmfpgfgjjmfhaa
open Go

section
variable {P : Program} {EE : EX} {ops : Array Oper} {Q : Exit → Act → World → Prop} {F : Fence} {m : Nat}

/-- fences that let all by -/
structure Open (P : Program) (F : Fence) (m : Nat) : Prop where
  fn : ∀ f, F.fn f
  depth : F.depth = none
  calls : ∀ f args w R, Calls P f args w R → CallsIn F (m - 1) P f args w R
theorem open_wide : Open P Fence.wide m := ⟨fun _ => trivial, rfl, fun _ _ _ _ h => callsIn_wide.2 h⟩
theorem open_round (l : Nat) : Open P (Fence.wide.inRound l) m := ⟨fun _ => trivial, rfl, fun _ _ _ _ h => CallsIn.inRound l (callsIn_wide.2 h)⟩
def noDefer (l : List Oper) : Bool := l.all fun o => match o.op with
  | .defer _ => false
  | _ => true
theorem noDefer_cons {o : Oper} {l : List Oper} (h : noDefer (o :: l) = true) : (∀ c, o.op ≠ .defer c) ∧ noDefer l = true := by
  unfold noDefer at h ⊢
  rw [List.all_cons, Bool.and_eq_true] at h
  exact ⟨fun c hc => by rw [hc] at h; simp at h, h.2⟩

theorem doS_wpIn (ho : Open P F m) (hQ : exOk Q EE) {o : Oper} (hnd : ∀ c, o.op ≠ .defer c) {K : Act → World → Prop} {a : Act} {w : World} {md : Md} (hh : doS P EE o K a w md) : o.wpIn F m P a w K Q := by
  refine ⟨fun f _ => ho.fn f, ?_⟩
  rw [Oper.semAt_eq F.round _ _ hnd]
  cases md with
  | p => obtain ⟨v, h1, h2⟩ := hh; rw [h1 w]; exact h2
  | r => obtain ⟨v, h1, h2⟩ := hh; rw [h1 w (Ext.refl w)]; exact h2
  | n => obtain ⟨b, f, h1, h2⟩ := hh; rw [h1 w]; exact h2
  | w =>
    have hd : F.depth.isSome = true → 1 ≤ m := fun h => by rw [ho.depth] at h; cases h
    simp only [doS] at hh
    generalize (execOp a.eval o).run P w = r at *
    cases EE with
    | none =>
      simp only [afterW] at hh
      cases r with
      | ok x w' =>
        cases x <;> simp only [afterN] at hh <;> simp only [Oper.uponIn] <;> first
          | exact hh
          | exact hh.elim
          | exact ⟨hd, ho.calls _ _ _ _ (Calls.mono hh (fun e w'' ⟨v, he, hk⟩ => by subst he; exact hk))⟩
      | halt x w' => exact hh.elim
    | some E =>
      simp only [exOk] at hQ
      subst hQ
      simp only [afterW] at hh
      cases r with
      | ok x w' =>
        cases x <;> simp only [afterE] at hh <;> simp only [Oper.uponIn] <;> first
          | exact hh
          | exact hh.elim
          | exact ⟨hd, ho.calls _ _ _ _ (Calls.mono hh (fun e w'' hk => by
              rcases hk with ⟨v, he, hk⟩ | ⟨ch, he, hk⟩
              · subst he; exact hk
              · subst he; exact hk))⟩
      | halt x w' =>
        cases x <;> simp only [afterE] at hh <;> first
          | exact hh
          | exact hh.elim

theorem runS_wpListIn (ho : Open P F m) (hQ : exOk Q EE) {K : Act → World → Prop} {rest : List Oper} (hK : ∀ a w, K a w → wpListIn F m P ops Q rest a w) : ∀ (l : List Oper), noDefer l = true → ∀ (a : Act) (w : World), runS P EE ops K l a w → wpListIn F m P ops Q (l ++ rest) a w
  | [], _, a, w, h => hK a w h
  | o :: r, hnd, a, w, h => by
    obtain ⟨h1, h2⟩ := noDefer_cons hnd
    have h' := stepS_mono (fun a w hk => runS_wpListIn ho hQ hK r h2 a w hk) h
    unfold stepS at h'
    show wpListIn F m P ops Q (o :: (r ++ rest)) a w
    simp only [wpListIn]
    split
    · rename_i hw
      rw [if_pos hw] at h'
      exact doS_wpIn ho hQ h1 h'
    · rename_i hw
      rw [if_neg hw] at h'
      exact ⟨fun f _ => ho.fn f, h'⟩

variable {n : Nat} {fm : Fm} {L : List HP}
theorem ji_region (ho : Open P F m) {id : Nat} {l : List Oper} (hnd : noDefer l = true) (h : J n fm L (runS P (some fun ch => Q (.panic ch)) l.toArray (Q .normal) l)) : J n fm L ((Code.region id l.toArray false).wpIn F m P Q) := fun a w hr hs => by
  refine wpIn_region_lit ?_
  have := runS_wpListIn (EE := some fun ch => Q (.panic ch)) (Q := Q) (ops := l.toArray) (rest := []) ho rfl (fun a w h => h) l hnd a w (h a w hr hs)
  rw [List.append_nil] at this
  exact this
theorem ji_seq {x y : Code} (h : J n fm L (x.wpIn F m P (Exit.then (y.wpIn F m P Q) Q))) : J n fm L ((Code.seq x y).wpIn F m P Q) := fun a w hr hs => wpIn_seq (h a w hr hs)
theorem ji_skip (h : J n fm L (Q .normal)) : J n fm L (Code.skip.wpIn F m P Q) := fun a w hr hs => wpIn_skip (h a w hr hs)
theorem ji_exit {id : Nat} (h : J n fm L (Q (.exit id))) : J n fm L ((Code.exit id).wpIn F m P Q) := fun a w hr hs => wpIn_exit (h a w hr hs)
theorem ji_ret (h : J n fm L (Q .ret)) : J n fm L (Code.ret.wpIn F m P Q) := fun a w hr hs => wpIn_ret (h a w hr hs)
theorem ji_block {id : Nat} {c : Code} (h : J n fm L (c.wpIn F m P (Exit.inBlock id Q))) : J n fm L ((Code.block id c).wpIn F m P Q) := fun a w hr hs => wpIn_block (h a w hr hs)
theorem ji_true {c : Operand} {x y : Code} (hc : ev fm c = some (.bool true)) (h : J n fm L (x.wpIn F m P Q)) : J n fm L ((Code.cond c x y).wpIn F m P Q) :=
  fun a w hr hs => wpIn_cond_true (hr.ev hc) (h a w hr hs)
theorem ji_false {c : Operand} {x y : Code} (hc : ev fm c = some (.bool false)) (h : J n fm L (y.wpIn F m P Q)) : J n fm L ((Code.cond c x y).wpIn F m P Q) :=
  fun a w hr hs => wpIn_cond_false (hr.ev hc) (h a w hr hs)
theorem ji_dec {c : Operand} {x y : Code} {p : Prop} [Decidable p] (hc : ev fm c = some (.bool (decide p))) (h1 : p → J n fm L (x.wpIn F m P Q)) (h2 : ¬ p → J n fm L (y.wpIn F m P Q)) : J n fm L ((Code.cond c x y).wpIn F m P Q) :=
  fun a w hr hs => wpIn_cond_split (hr.ev hc) (fun h => h1 (of_decide_eq_true h) a w hr hs) (fun h => h2 (of_decide_eq_false h) a w hr hs)

/-! ### yield, as the function that is ranged over calls it -/
def Yld (P : Program) (m lp : Nat) (vs : List Value) (Lp : List HP) (R : Bool → List HP → Prop) : Prop :=
  ∀ (F : List HP) (w : World), Sat (Lp ++ F) w → ∃ fn tmps assign body, (Instr.yield lp vs.toArray).run P w = .ok (.round lp fn tmps assign body) w ∧
    RoundIn Fence.wide (m - 1) P lp fn tmps assign body w (fun e w' => ∃ b M, e = .returned (.bool b) ∧ R b M ∧ Sat (M ++ F) w')

theorem j_regionY {id : Nat} {l : List Oper} (l1 : List Oper) (o : Oper) (l2 : List Oper) (hl : l = l1 ++ o :: l2) (hnd : noDefer l1 = true) (m : Nat)
    (h : J n fm L (runS P (some fun ch => Q (.panic ch)) l.toArray (wpListIn Fence.wide m P l.toArray Q (o :: l2)) l1)) : J n fm L ((Code.region id l.toArray false).wp P Q) := fun a w hr hs => by
  refine (wpIn_wide (n := m)).1 (wpIn_region_lit ?_)
  have := runS_wpListIn (EE := some fun ch => Q (.panic ch)) (Q := Q) (ops := l.toArray) (rest := o :: l2) open_wide rfl (fun a w h => h) l1 hnd a w (h a w hr hs)
  rw [← hl] at this
  exact this

theorem j_yield {lp : Nat} {c : Operand} {as : Array Operand} {ats : Array TypeId} {vs : List Value} {Lp G : List HP} {R : Bool → List HP → Prop} {d : Tmp} {ty : TypeId} {pos : String} {after : Array Edge} {l2 : List Oper}
    (hc : ev fm c = some (.func (.yield lp) #[] #[])) (ha : as.toList.mapM (ev fm) = some vs) (spec : Yld P m lp vs Lp R) (hL : Pk L (Lp ++ G)) (hd : Nat.blt d n = true) (hnd : noDefer l2 = true)
    (k : ∀ b M N, R b M → N = M ++ G → J n ((d, .bool b) :: fm) N (runS P (some fun ch => Q (.panic ch)) ops (Q .normal) l2)) :
    J n fm L (wpListIn Fence.wide m P ops Q (⟨some d, .call ⟨.value c, as, ats⟩, ty, pos, after, none⟩ :: l2)) := by
  intro a w hr hw
  have h4 : as.map a.eval = vs.toArray := by
    have h2 : ∀ (l : List Operand) (vs : List Value), l.mapM (ev fm) = some vs → l.map a.eval = vs := by
      intro l
      induction l with
      | nil => intro vs h; simp at h; simp [h]
      | cons x l ih =>
        intro vs h
        simp only [List.mapM_cons, Option.bind_eq_bind, Option.bind_eq_some_iff, Option.pure_def, Option.some.injEq] at h
        obtain ⟨v, hv, vs', hvs, rfl⟩ := h
        simp [hr.ev hv, ih vs' hvs]
    have h3 := h2 _ _ ha
    apply Array.toList_inj.1
    simpa using h3
  obtain ⟨fn, tmps, assign, body, hy, hR⟩ := spec G w (hw.pk hL)
  refine wpListIn_plain rfl (fun K hK => ?_)
  refine ⟨fun f _ => trivial, ?_⟩
  have hrun : (Oper.semAt Fence.wide.round a.eval ⟨some d, .call ⟨.value c, as, ats⟩, ty, pos, after, none⟩).run P w = .ok (.round lp fn tmps assign body) w := by
    rw [Oper.semAt_eq _ _ _ (fun c h => by cases h)]
    simp [execOp, resolve, hr.ev hc, Deferred.ofValue, invoke, h4, hy]
  rw [hrun]
  refine ⟨(fun h => by cases h), hR.mono fun e w' ⟨b, M, he, hRb, hs⟩ => ?_⟩
  subst he
  refine hK _ _ ?_
  have := runS_wpListIn (EE := some fun ch => Q (.panic ch)) (Q := Q) (ops := ops) (rest := []) (m := m) open_wide rfl (fun a w h => h) l2 hnd _ w' (k b M _ hRb rfl _ w' (hr.put hd (.bool b)) hs)
  rw [List.append_nil] at this
  exact this

/-! ### a round -/
theorem yld_of {lp : Nat} {r : Loop} {vs : List Value} {Lp : List HP} {R : Bool → List HP → Prop} (hs : vs.length = r.params.size)
    (htm : Rep n fm { tmps := (r.params.zip vs.toArray).foldl (fun tmps (t, a) => tmps.setIfInBounds t a) r.tmps, defers := [] })
    (h : ∀ F, J n fm (pts lp (.loop r) :: (Lp ++ F)) (r.assign.wpIn (Fence.wide.inRound lp) (m - 1) P (Exit.then (fun a₁ w₁ => ∃ w₂, (Instr.beginRound lp).run P w₁ = .ok () w₂ ∧ r.body.wpIn (Fence.wide.inRound lp) (m - 1) P (roundPost P lp (fun e w' => ∃ b M, e = .returned (.bool b) ∧ R b M ∧ Sat (M ++ F) w')) a₁ w₂) (fun _ _ _ => False)))) :
    Yld P m lp vs (pts lp (.loop r) :: Lp) R := by
  intro F w hw
  have hp : w.heap[lp]? = some (.loop r) := by
    obtain ⟨S, hS⟩ := hw.at (A := pts lp (.loop r)) .z
    exact hS.2
  refine ⟨_, _, _, _, run_yield hp (by simpa using hs), roundIn_of_wpIn trivial (h F _ w htm hw)⟩

theorem sat_loop {lp : Nat} {o o' : Obj} {L' : List HP} {w : World} (hw : Sat L w) (hu : Up L (pts lp o) (pts lp o') L') : Sat L' (w.putObj lp o') := by
  refine hw.up hu (fun S hS => ⟨⟨.inl hS.1, World.putObj_heap_same (lt_of_heap hS.2)⟩, fun b hb hS' => World.putObj_heap_other (fun e => hS' (e ▸ hS.1))⟩) ⟨rfl, rfl, rfl⟩
theorem at_of_up {L L' : List HP} {A A' : HP} (h : Up L A A' L') : At L A := by
  obtain ⟨i, hi, _⟩ := h.get
  exact at_of_get hi
theorem ji_begin {lp : Nat} {r : Loop} {L' : List HP} {c : Code} {R' : Ending → World → Prop} (hready : r.state = .ready) (hu : Up L (pts lp (.loop r)) (pts lp (.loop { r with state := .busy })) L')
    (h : J n fm L' (c.wpIn (Fence.wide.inRound lp) m P (roundPost P lp R'))) : J n fm L (fun a₁ w₁ => ∃ w₂, (Instr.beginRound lp).run P w₁ = .ok () w₂ ∧ c.wpIn (Fence.wide.inRound lp) m P (roundPost P lp R') a₁ w₂) := by
  intro a w hr hw
  have hp : w.heap[lp]? = some (.loop r) := by
    obtain ⟨S, hS⟩ := hw.at (at_of_up hu)
    exact hS.2
  exact ⟨_, run_beginRound hp hready, h a _ hr (sat_loop hw hu)⟩
theorem ji_roundOn {lp : Nat} {r : Loop} {L' M F : List HP} {R : Bool → List HP → Prop} (hu : Up L (pts lp (.loop r)) (pts lp (.loop { r with state := .ready, pending := none })) L') (hM : Pk L' (M ++ F)) (hR : R true M) :
    J n fm L (roundPost P lp (fun e w' => ∃ b M, e = .returned (.bool b) ∧ R b M ∧ Sat (M ++ F) w') .normal) := by
  intro a w hr hw
  have hp : w.heap[lp]? = some (.loop r) := by
    obtain ⟨S, hS⟩ := hw.at (at_of_up hu)
    exact hS.2
  exact ⟨_, _, run_endRound none hp, true, M, rfl, hR, (sat_loop hw hu).pk hM⟩
theorem ji_roundRet {lp : Nat} {r : Loop} {L' M F : List HP} {R : Bool → List HP → Prop} (hu : Up L (pts lp (.loop r)) (pts lp (.loop { r with state := .done, pending := some .ret })) L') (hM : Pk L' (M ++ F)) (hR : R false M) :
    J n fm L (roundPost P lp (fun e w' => ∃ b M, e = .returned (.bool b) ∧ R b M ∧ Sat (M ++ F) w') .ret) := by
  intro a w hr hw
  have hp : w.heap[lp]? = some (.loop r) := by
    obtain ⟨S, hS⟩ := hw.at (at_of_up hu)
    exact hS.2
  exact ⟨_, _, run_endRound (some .ret) hp, false, M, rfl, hR, (sat_loop hw hu).pk hM⟩

theorem pk_in {A : HP} : ∀ (Lp G : List HP), Pk (A :: (Lp ++ G)) (Lp ++ A :: G)
  | [], _ => .refl
  | B :: Lp, G => .cons (.s .z) (pk_in Lp G)
theorem tk_out {A : HP} : ∀ (Lp G : List HP), Tk (Lp ++ A :: G) A (Lp ++ G)
  | [], _ => .z
  | B :: Lp, G => .s (tk_out Lp G)
theorem pk_out {A : HP} (Lp G : List HP) : Pk (Lp ++ A :: G) (A :: (Lp ++ G)) := .cons (tk_out Lp G) .refl
/-! ### the statement -/
theorem j_rangeFunc {g : Operand} {ps : Array Tmp} {assign body : Code} {gf : FuncId} [hf : Fnc P gf] {cap : Array Value} {Lp G : List HP} {R : Option Code → List HP → Prop} (hg : ev fm g = some (.func (.func gf) #[] cap))
    (spec : ∀ (fn : FuncId) (a : Act) (lp rd : Nat), Rep n fm a → Tr P gf (.func (.yield lp) #[] #[] :: cap.toList) (pts lp (.loop { state := .ready, pending := none, fn := fn, tmps := a.tmps, params := ps, assign := assign, body := body, defers := rd }) :: Lp)
      (fun v M => ∃ (r : Loop) (M' : List HP), r.state ≠ .busy ∧ M = pts lp (.loop r) :: M' ∧ R r.pending M'))
    (hL : Pk L (Lp ++ G))
    (k : ∀ pend M rd, R pend M → J n fm (pts rd (.deferred (some [])) :: (M ++ G)) (wd [{ target := .collected rd, args := #[] }] (match pend with
      | none => Q .normal
      | some c => c.wp P Q))) : J n fm L ((Code.rangeFunc g ps assign body).wp P Q) := by
  intro a w hr hw
  refine (wpIn_wide (n := 1)).1 (wpIn_rangeFunc (fun fn _ => ?_))
  obtain ⟨fn', h1, h2, h3⟩ := hf.fn
  have hb2 : fn'.body ≠ none := by intro e; rw [e] at h2; simp at h2
  have h3' : fn'.name ≠ "runtime.NumGoroutine" := by simpa using h3
  obtain ⟨W1, hW1⟩ : ∃ W1, W1 = (w.alloc (.deferred (some []))).alloc (.loop { state := .ready, pending := none, fn := fn, tmps := a.tmps, params := ps, assign := assign, body := body, defers := w.heap.size }) := ⟨_, rfl⟩
  refine ⟨w.heap.size + 1, [{ target := .collected w.heap.size, args := #[] }], W1, { target := .fn (.func gf) cap, args := #[.func (.yield (w.heap.size + 1)) #[] #[]] }, W1, gf, #[.func (.yield (w.heap.size + 1)) #[] #[]] ++ cap, W1, ?_, ?_, fun _ _ => trivial, ?_, (fun h => by cases h), callsIn_wide.2 ?_⟩
  · rw [hW1]; exact run_enterLoop_outer _ _ _ _ _
  · have ec : ∀ v, a.eval (.const v) = v := fun _ => rfl
    simp [resolve, hr.ev hg, Deferred.ofValue, ec]
  · simp [invoke, callFunc, h1, h3', hb2]
  · rw [hW1]
    have w1 : Sat (pts w.heap.size (.deferred (some [])) :: L) (w.alloc (.deferred (some []))) :=
      hw.new (A' := pts w.heap.size (.deferred (some []))) ⟨Nat.le_refl _, World.alloc_heap_new w _⟩ (fun b hb => heap_alloc_old w _ hb) ⟨rfl, rfl, rfl⟩
    obtain ⟨w', hw'⟩ : ∃ w', w' = w.alloc (.deferred (some [])) := ⟨_, rfl⟩
    have hsz : w'.heap.size = w.heap.size + 1 := by rw [hw']; simp
    rw [← hw'] at w1 ⊢
    rw [← hsz]
    have w2 : ∀ (o : Obj), Sat (pts w'.heap.size o :: pts w.heap.size (.deferred (some [])) :: L) (w'.alloc o) := fun o =>
      w1.new (A' := pts w'.heap.size o) ⟨Nat.le_refl _, World.alloc_heap_new w' _⟩ (fun b hb => heap_alloc_old w' _ hb) ⟨rfl, rfl, rfl⟩
    have e0 : (#[.func (.yield w'.heap.size) #[] #[]] ++ cap : Array Value) = (.func (.yield w'.heap.size) #[] #[] :: cap.toList).toArray := by apply Array.toList_inj.1; simp
    rw [e0]
    refine (spec fn a w'.heap.size w.heap.size hr (pts w.heap.size (.deferred (some [])) :: G) _ (((w2 _).pk (.cons (.s .z) (.cons .z hL))).pk (pk_in (_ :: Lp) G))).mono ?_
    · show _
      rintro e w3 ⟨v, M, rfl, ⟨r, M', hb, rfl, hR⟩, hs⟩
      have hp : w3.heap[w'.heap.size]? = some (.loop r) := by
        obtain ⟨S, hS⟩ := hs.at (A := pts w'.heap.size (.loop r)) .z
        exact hS.2
      refine ⟨_, _, run_endLoop hp hb, ?_⟩
      have hs2 := sat_loop (o' := .loop { r with state := .exhausted }) hs (by exact .z)
      have hs3 := k r.pending M' w.heap.size hR a _ hr (hs2.tail.pk (pk_out M' G))
      have ed : ({ a with defers := [{ target := .collected w.heap.size, args := #[] }] ++ a.defers } : Act) = Act.on a [{ target := .collected w.heap.size, args := #[] }] := by
        unfold Act.on
        rw [hr.defers]; rfl
      rw [ed]
      cases hpd : r.pending with
      | none => rw [hpd] at hs3; exact hs3
      | some c => rw [hpd] at hs3; exact wpIn_wide.2 hs3

/-! ### functions with such a statement -/
theorem tr_enterM {f : FuncId} {fn : Func} {c : Code} {args : List Value} {Lp : List HP} {R : Value → List HP → Prop} (hf : P.funcs[f]? = some fn) (hb : fn.body = some c) (hn : fn.ntmps = n) (hsz : Nat.ble args.length n = true)
    (h : ∀ F, J n (fmArgs args 0) (Lp ++ F) (c.wp P (bodyPostM Fence.wide 0 P fn (postF R F)))) : Tr P f args Lp R := by
  intro F w hw
  have hle : args.length ≤ n := Nat.le_of_ble_eq_true hsz
  refine callsIn_wide.1 (callsIn_of_wp_marks (n := 0) hf hb trivial (wpIn_wide.2 (h F _ w ⟨rfl, ?_, fun i v hi => ?_⟩ hw)))
  · simp [hn]; omega
  · obtain ⟨_, h2⟩ := look_fmArgs args 0 i v hi
    have hlt := (List.getElem?_eq_some_iff.1 h2).1
    simp only [Nat.sub_zero] at hlt h2
    have h3 : (args.toArray ++ Array.replicate (fn.ntmps - args.toArray.size) undef)[i]? = args[i]? := by
      rw [Array.getElem?_append]; simp [hlt]
    exact h3.trans h2
theorem j_leaveM {fn : Func} {R : Value → List HP → Prop} {F L' M : List HP} {rd : Nat} {v : Value} (hu : Up L (pts rd (.deferred (some []))) (pts rd (.deferred none)) L') (hres : ∀ a w, Rep n fm a → Sat L' w → (results fn a.tmps).run P w = .ok v w) (hM : Pk L' (M ++ F)) (hR : R v M) :
    J n fm L (wd [{ target := .collected rd, args := #[] }] (bodyPostM Fence.wide m P fn (postF R F) .ret)) := by
  intro a w hr hw
  have hp : w.heap[rd]? = some (.deferred (some [])) := by
    obtain ⟨S, hS⟩ := hw.at (at_of_up hu)
    exact hS.2
  have hs := sat_loop hw hu
  show LeavesInM _ _ P fn a.tmps _ (a.defers ++ _) .returning w
  rw [hr.defers]
  exact ⟨by simp, .inl ⟨rd, _, rfl, run_takeDeferred hp, v, hres a _ hr hs, v, M, rfl, hR, hs.pk hM⟩⟩
theorem run_res1 {fn : Func} {a : Act} {c1 : Tmp} {t1 : TypeId} {b1 : Nat} {v1 : Value} {w : World} (hr : Rep n fm a) (ht : fn.results = #[.cell c1 t1]) (h1 : look fm c1 = some (.pointer (some ⟨b1, 0, none⟩)))
    (e1 : (loadVar t1 ⟨b1, 0, none⟩).run P w = .ok v1 w) : (results fn a.tmps).run P w = .ok v1 w := by
  simp [results, ht, hr.slot c1 _ h1, asAddr, e1]
variable {ds : List Deferred}
theorem jd_inb {id : Nat} (h : J n fm L (wd ds (Q .normal))) : J n fm L (wd ds (Exit.inBlock id Q .normal)) := h
theorem jd_inb_ret {id : Nat} (h : J n fm L (wd ds (Q .ret))) : J n fm L (wd ds (Exit.inBlock id Q .ret)) := h
end
end Go.Proofs.Ytnmfpgfgjjmfhaa
