/- Calls put off, and recover: functions that defer a closure. -/
import Derived.Test.YtnmfpgfgjjmfhaaSu
import Derived.Recover
set_option linter.unusedVariables false
set_option linter.unusedSimpArgs false
namespace Go.Proofs.Ytnmfpgfgjjmfhaa
open Go

section
variable {P : Program} {n : Nat} {fm : Fm} {L : List HP}

/-- the same, with calls put off beneath -/
def Act.on (a : Act) (ds : List Deferred) : Act := { a with defers := a.defers ++ ds }
def wd (ds : List Deferred) (X : Act → World → Prop) : Act → World → Prop := fun a w => X (Act.on a ds) w
theorem on_eval (a : Act) (ds : List Deferred) : (Act.on a ds).eval = a.eval := by
  funext x; cases x <;> rfl
theorem on_put (a : Act) (ds : List Deferred) (d : Option Tmp) (v : Value) : (Act.on a ds).put d v = Act.on (a.put d v) ds := by cases d <;> rfl
theorem on_tmps (a : Act) (ds : List Deferred) : (Act.on a ds).tmps = a.tmps := rfl

theorem runS_wd {E : List PanicEntry → Act → World → Prop} {ops : Array Oper} {K : Act → World → Prop} (ds : List Deferred) : ∀ (l : List Oper) (a : Act) (w : World), runS P (some fun ch => wd ds (E ch)) ops (wd ds K) l a w → runS P (some E) ops K l (Act.on a ds) w
  | [], a, w, h => h
  | o :: r, a, w, h => by
    have h2 : stepS P (some fun ch => wd ds (E ch)) ops o (wd ds (runS P (some E) ops K r)) a w := stepS_mono (fun a w hk => runS_wd ds r a w hk) h
    show stepS P (some E) ops o (runS P (some E) ops K r) (Act.on a ds) w
    generalize runS P (some E) ops K r = Q at h2
    unfold stepS at h2 ⊢
    rw [on_tmps]
    split
    · rename_i hw
      rw [if_pos hw] at h2
      generalize cls P o.op = m at h2 ⊢
      cases m with
      | p => obtain ⟨v, k1, k2⟩ := h2; exact ⟨v, by rw [on_eval]; exact k1, by rw [on_put]; exact k2⟩
      | r => obtain ⟨v, k1, k2⟩ := h2; exact ⟨v, by rw [on_eval]; exact k1, by rw [on_put]; exact k2⟩
      | n => obtain ⟨b, f, k1, k2⟩ := h2; exact ⟨b, f, by rw [on_eval]; exact k1, by rw [on_put]; exact k2⟩
      | w =>
        simp only [doS, afterW] at h2 ⊢
        rw [on_eval]
        generalize (execOp a.eval o).run P w = x at h2 ⊢
        cases x with
        | ok x w' =>
          cases x <;> simp only [afterE] at h2 ⊢ <;> first
            | (rw [on_put]; exact h2)
            | exact h2.elim
            | exact Calls.mono h2 (fun e w'' hk => hk.elim (fun ⟨v, he, hk⟩ => .inl ⟨v, he, by rw [on_put]; exact hk⟩) .inr)
            | (refine cast ?_ h2; show Q (Act.on _ ds) w' = Q _ w'; congr 1; cases o.dst <;> rfl)
        | halt x w' => cases x <;> simp only [afterE] at h2 ⊢ <;> first | exact h2 | exact h2.elim
    · rename_i hw
      rw [if_neg hw] at h2
      rw [on_put]
      exact h2

variable {Q : Exit → Act → World → Prop} {ds : List Deferred} {X : Act → World → Prop}
theorem jd_nil {X : Act → World → Prop} (h : J n fm L (wd ds X)) : J n fm L (wd ds X) := h
theorem jd_seq {x y : Code} (h : J n fm L (wd ds (x.wp P (Exit.then (y.wp P Q) Q)))) : J n fm L (wd ds ((Code.seq x y).wp P Q)) := fun a w hr hs => wp_seq (h a w hr hs)
theorem jd_ret (h : J n fm L (wd ds (Q .ret))) : J n fm L (wd ds (Code.ret.wp P Q)) := fun a w hr hs => wp_ret (h a w hr hs)
theorem jd_skip (h : J n fm L (wd ds (Q .normal))) : J n fm L (wd ds (Code.skip.wp P Q)) := fun a w hr hs => wp_skip (h a w hr hs)
theorem jd_then {K : Act → World → Prop} (h : J n fm L (wd ds K)) : J n fm L (wd ds (Exit.then K Q .normal)) := h
theorem jd_then_ret {K : Act → World → Prop} (h : J n fm L (wd ds (Q .ret))) : J n fm L (wd ds (Exit.then K Q .ret)) := h
theorem jd_then_panic {K : Act → World → Prop} {ch : List PanicEntry} (h : J n fm L (wd ds (Q (.panic ch)))) : J n fm L (wd ds (Exit.then K Q (.panic ch))) := h
theorem jd_region {id : Nat} {l : List Oper} (h : J n fm L (runS P (some fun ch => wd ds (Q (.panic ch))) l.toArray (wd ds (Q .normal)) l)) : J n fm L (wd ds ((Code.region id l.toArray false).wp P Q)) :=
  fun a w hr hs => wp_region_lit (runS_wpList (EE := some fun ch => Q (.panic ch)) rfl l _ w (runS_wd ds l a w (h a w hr hs)))
theorem jd_dec {c : Operand} {x y : Code} {p : Prop} [Decidable p] (hc : ev fm c = some (.bool (decide p))) (h1 : p → J n fm L (wd ds (x.wp P Q))) (h2 : ¬ p → J n fm L (wd ds (y.wp P Q))) : J n fm L (wd ds ((Code.cond c x y).wp P Q)) :=
  fun a w hr hs => wp_cond_split (by rw [on_eval]; exact hr.ev hc) (fun h => h1 (of_decide_eq_true h) a w hr hs) (fun h => h2 (of_decide_eq_false h) a w hr hs)
theorem jd_true {c : Operand} {x y : Code} (hc : ev fm c = some (.bool true)) (h : J n fm L (wd ds (x.wp P Q))) : J n fm L (wd ds ((Code.cond c x y).wp P Q)) :=
  fun a w hr hs => wp_cond_true (by rw [on_eval]; exact hr.ev hc) (h a w hr hs)
theorem jd_false {c : Operand} {x y : Code} (hc : ev fm c = some (.bool false)) (h : J n fm L (wd ds (y.wp P Q))) : J n fm L (wd ds ((Code.cond c x y).wp P Q)) :=
  fun a w hr hs => wp_cond_false (by rw [on_eval]; exact hr.ev hc) (h a w hr hs)

/-- the statement 'defer', last in its region -/
theorem j_defer {E : List PanicEntry → Act → World → Prop} {ops : Array Oper} {K : Act → World → Prop} {c : Operand} {ty : TypeId} {pos : String} {after : Array Edge} {fv : Fn} {cap : Array Value}
    (hc : ev fm c = some (.func fv #[] cap)) (h : J n fm L (wd [{ target := .fn fv cap, args := #[] }] K)) : J n fm L (runS P (some E) ops K [⟨none, .defer ⟨.value c, #[], #[]⟩, ty, pos, after, none⟩]) := by
  intro a w hr hw
  refine runS_pos rfl ?_
  show doS P (some E) _ _ a w (cls P _)
  have hrun : (execOp a.eval ⟨none, .defer ⟨.value c, #[], #[]⟩, ty, pos, after, none⟩).run P w = .ok (.defer { target := .fn fv cap, args := #[] }) w := by
    simp [execOp, resolve, hr.ev hc, Deferred.ofValue]
  show afterE P E _ a K _
  rw [hrun]
  show K _ w
  have := h a w hr hw
  unfold wd Act.on at this
  rw [hr.defers] at this
  show K { a with defers := _ :: a.defers } w
  rw [hr.defers]
  exact this

/-- a function that puts calls off is entered -/
theorem tr_enterD {f : FuncId} {fn : Func} {c : Code} {args : List Value} {Lp : List HP} {R : Value → List HP → Prop} (hf : P.funcs[f]? = some fn) (hb : fn.body = some c) (hn : fn.ntmps = n) (hsz : Nat.ble args.length n = true)
    (h : ∀ F, J n (fmArgs args 0) (Lp ++ F) (c.wp P (bodyPostD P fn (postF R F)))) : Tr P f args Lp R := by
  intro F w hw
  have hle : args.length ≤ n := Nat.le_of_ble_eq_true hsz
  refine calls_of_wp_defers hf hb (h F _ w ⟨rfl, ?_, fun i v hi => ?_⟩ hw)
  · simp [hn]; omega
  · obtain ⟨_, h2⟩ := look_fmArgs args 0 i v hi
    have hlt := (List.getElem?_eq_some_iff.1 h2).1
    simp only [Nat.sub_zero] at hlt h2
    have h3 : (args.toArray ++ Array.replicate (fn.ntmps - args.toArray.size) undef)[i]? = args[i]? := by
      rw [Array.getElem?_append]; simp [hlt]
    exact h3.trans h2

/-- what a closure that is called at the end does: how the frame that ends stands behind it -/
def TrD (P : Program) (f : FuncId) (args : List Value) (u u' : FrameMode) (Lp M : List HP) : Prop :=
  ∀ (F : List HP) (w : World), Sat (Lp ++ F) w → CallsD P f args.toArray u w (fun e u'' w' => (∃ v, e = .returned v) ∧ u'' = u' ∧ Sat (M ++ F) w')

/-- the end of a function that has put one call off -/
theorem j_leave {fn : Func} {R : Value → List HP → Prop} {F F' Lp M M' : List HP} {f : FuncId} [hf : Fnc P f] {cap : Array Value} {v : Value} (spec : TrD P f cap.toList .returning .returning Lp M) (hL : Pk L (Lp ++ F'))
    (hres : ∀ a w, Rep n fm a → Sat (M ++ F') w → (results fn a.tmps).run P w = .ok v w) (hM : Pk (M ++ F') (M' ++ F)) (hR : R v M') : J n fm L (wd [{ target := .fn (.func f) cap, args := #[] }] (bodyPostD P fn (postF R F) .ret)) := by
  intro a w hr hw
  show Leaves P fn a.tmps _ (a.defers ++ _) .returning w
  rw [hr.defers]
  obtain ⟨fn', h1, h2, h3⟩ := hf.fn
  have hb2 : fn'.body ≠ none := by intro e; rw [e] at h2; simp at h2
  have h3' : fn'.name ≠ "runtime.NumGoroutine" := by simpa using h3
  refine ⟨by simp, .func f, cap, f, cap, rfl, ?_, ?_⟩
  · simp [invoke, callFunc, h1, h3', hb2]
  · have e : cap = cap.toList.toArray := by simp
    have := spec F' w (hw.pk hL)
    rw [← e] at this
    intro c₀ cs hu
    obtain ⟨e, u', w', fr, ⟨⟨v0, rfl⟩, rfl, hs⟩, hh⟩ := this c₀ cs hu
    refine ⟨_, _, w', fr, ?_, hh⟩
    show Leaves P fn a.tmps _ [] (settle .returning) w'
    exact ⟨v, hres a w' hr hs, v, M', rfl, hR, hs.pk hM⟩

/-! ### recover -/
theorem wpOpsS_of_runS {ops : Array Oper} {K : Act → World → Prop} {QQ : Exit → Act → List Frame → World → Prop} {cs : List Frame} (hK : ∀ a w, K a w → QQ .normal a cs w) : ∀ (l : List Oper) (k : Nat) (a : Act) (w : World), (∀ j, l[j]? = ops[k + j]?) → runS P none ops K l a w → wpOpsS P ops QQ (List.range' k l.length) a cs w
  | [], _, a, w, _, h => hK a w h
  | o :: r, k, a, w, hl, h => by
    have h0 : ops[k]? = some o := by have := hl 0; simpa using this.symm
    have hr : ∀ j, r[j]? = ops[k + 1 + j]? := fun j => by have := hl (j + 1); rw [List.getElem?_cons_succ] at this; rw [this]; congr 1; omega
    have h2 : stepS P none ops o (fun a w => wpOpsS P ops QQ (List.range' (k + 1) r.length) a cs w) a w := stepS_mono (fun a w hk => wpOpsS_of_runS hK r (k + 1) a w hr hk) h
    rw [List.length_cons, List.range'_succ]
    simp only [wpOpsS, h0]
    unfold stepS at h2
    split
    · rename_i hw
      rw [if_pos hw] at h2
      have h3 := doS_wp (Q := fun e a w => QQ e a cs w) (EE := none) trivial h2
      unfold Oper.wp at h3
      generalize (execOp a.eval o).run P w = x at h3 ⊢
      cases x with
      | ok x w' =>
        cases x <;> first | exact h3 | (simp only [Oper.upon] at h3)
      | halt x w' => exact h3
    · rename_i hw
      rw [if_neg hw] at h2
      exact h2

/-- what recover finds, and how it leaves the frame that ends -/
def RecO (u u' : FrameMode) (rv : Value) : Prop :=
  (u = .returning ∧ u' = .returning ∧ rv = .nilIface) ∨ ∃ v older, u = .panicking ({ v, recovered := false } :: older) ∧ u' = .panicking ({ v, recovered := true } :: older) ∧ rv = v

theorem trD_rec {f : FuncId} {fn : Func} {id : Nat} {l : List Oper} {rest : Code} {d0 : Tmp} {ty : TypeId} {pos : String} {after : Array Edge} {args : List Value} {Lp M : List HP} {u u' : FrameMode} {rv : Value}
    (hf : P.funcs[f]? = some fn) (hb : fn.body = some (.seq (.region id (⟨some d0, .call ⟨.builtin .recover, #[], #[]⟩, ty, pos, after, none⟩ :: l).toArray false) rest)) (hn : fn.ntmps = n) (hsz : Nat.ble args.length n = true) (hd : Nat.blt d0 n = true) (ho : RecO u u' rv)
    (h : ∀ F, J n ((d0, rv) :: fmArgs args 0) (Lp ++ F) (runS P none (⟨some d0, .call ⟨.builtin .recover, #[], #[]⟩, ty, pos, after, none⟩ :: l).toArray (rest.wp P (bodyPost P fn (fun e w' => (∃ v, e = .returned v) ∧ Sat (M ++ F) w'))) l)) : TrD P f args u u' Lp M := by
  intro F w hw
  refine callsD_of_wpS hf hb (fun c₀ cs hu => wpS_seq (wpS_region ?_))
  have hle : args.length ≤ n := Nat.le_of_ble_eq_true hsz
  obtain ⟨ops, hops⟩ : ∃ ops : Array Oper, ops = (⟨some d0, .call ⟨.builtin .recover, #[], #[]⟩, ty, pos, after, none⟩ :: l : List Oper).toArray := ⟨_, rfl⟩
  have h0 := h F
  rw [← hops] at h0 ⊢
  have hsize : ops.size = l.length + 1 := by rw [hops]; simp
  have hop0 : ops[0]? = some ⟨some d0, .call ⟨.builtin .recover, #[], #[]⟩, ty, pos, after, none⟩ := by rw [hops]; simp
  rw [hsize, List.range_eq_range', List.range'_succ]
  simp only [wpOpsS, hop0]
  rw [if_pos (by simp [Region.wanted])]
  have hrep : Rep n (fmArgs args 0) { tmps := args.toArray ++ Array.replicate (fn.ntmps - args.toArray.size) undef, defers := [] } := by
    refine ⟨rfl, ?_, fun i v hi => ?_⟩
    · simp [hn]; omega
    · obtain ⟨_, h2⟩ := look_fmArgs args 0 i v hi
      have hlt := (List.getElem?_eq_some_iff.1 h2).1
      simp only [Nat.sub_zero] at hlt h2
      have h3 : (args.toArray ++ Array.replicate (fn.ntmps - args.toArray.size) undef)[i]? = args[i]? := by
        rw [Array.getElem?_append]; simp [hlt]
      exact h3.trans h2
  generalize ({ tmps := args.toArray ++ Array.replicate (fn.ntmps - args.toArray.size) undef, defers := [] } : Act) = a at hrep ⊢
  have hrun : (execOp a.eval ⟨some d0, .call ⟨.builtin .recover, #[], #[]⟩, ty, pos, after, none⟩).run P w = .ok .recover w := by
    simp [execOp, resolve, invoke, builtin]
  rw [hrun]
  have fin : ∀ cs', cs' = { c₀ with mode := u' } :: cs → wpOpsS P ops (Exit.thenS (rest.wpS P (bodyPostS P fn c₀ cs (fun e u'' w' => (∃ v, e = .returned v) ∧ u'' = u' ∧ Sat (M ++ F) w'))) (bodyPostS P fn c₀ cs (fun e u'' w' => (∃ v, e = .returned v) ∧ u'' = u' ∧ Sat (M ++ F) w'))) (List.range' (0 + 1) l.length) (a.put (some d0) rv) cs' w := by
    intro cs' hcs
    refine wpOpsS_of_runS (K := rest.wp P (bodyPost P fn (fun e w' => (∃ v, e = .returned v) ∧ Sat (M ++ F) w'))) (fun a w hk => ?_) l 1 _ w (fun j => by rw [hops]; simp [Nat.add_comm 1 j]) (h0 _ w (hrep.put hd rv) hw)
    show rest.wpS P _ a cs' w
    refine wpS_of_wp (wp_mono hk fun e a' w' hq => ?_)
    cases e with
    | normal => obtain ⟨q1, v, q2, q3, q4⟩ := hq; exact ⟨q1, u', hcs, v, q2, ⟨v, rfl⟩, rfl, q4⟩
    | ret => obtain ⟨q1, v, q2, q3, q4⟩ := hq; exact ⟨q1, u', hcs, v, q2, ⟨v, rfl⟩, rfl, q4⟩
    | panic ch => obtain ⟨q1, ⟨v, q2⟩, _⟩ := hq; cases q2
    | outgrown => obtain ⟨⟨v, q2⟩, _⟩ := hq; cases q2
    | exit id => exact hq.elim
    | goto l => exact hq.elim
  rcases ho with ⟨rfl, rfl, rfl⟩ | ⟨v, older, rfl, rfl, rfl⟩
  · have hrd : recoverD (c₀ :: cs) = none := by simp [recoverD, hu]
    simp only [hrd]
    refine fin _ ?_
    rw [← hu]
  · have hrd : recoverD (c₀ :: cs) = some (rv, { c₀ with mode := .panicking ({ v := rv, recovered := true } :: older) } :: cs) := by simp [recoverD, hu]
    simp only [hrd]
    exact fin _ rfl
end
end Go.Proofs.Ytnmfpgfgjjmfhaa
