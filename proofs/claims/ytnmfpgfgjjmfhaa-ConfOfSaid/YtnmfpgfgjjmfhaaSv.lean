/-
  More on typed slices: clear.
-/
import Derived.Test.YtnmfpgfgjjmfhaaSq
set_option linter.unusedVariables false
set_option linter.unusedSimpArgs false
namespace Go.Proofs.Ytnmfpgfgjjmfhaa
open Go

/-- a cut out of which other ways lead, too -/
def cutR {X : Type} (n : Nat) (fc : X → Fm) (Lc : X → List HP) (Q : Exit → Act → World → Prop) : Exit → Act → World → Prop := fun e a w => (e = .normal ∧ ∃ x, Rep n (fc x) a ∧ Sat (Lc x) w) ∨ (e ≠ .normal ∧ Q e a w)
section
variable {P : Program} {n : Nat} {fm : Fm} {L : List HP} {Q : Exit → Act → World → Prop}
theorem j_cutR {X : Type} (fc : X → Fm) (Lc : X → List HP) {c : Code} (h : J n fm L (c.wp P (cutR n fc Lc Q))) (k : ∀ x, J n (fc x) (Lc x) (Q .normal)) : J n fm L (c.wp P Q) :=
  fun a w hr hs => wp_mono (h a w hr hs) fun e a' w' he => by
    rcases he with ⟨rfl, x, h1, h2⟩ | ⟨_, h⟩
    · exact k x a' w' h1 h2
    · exact h
theorem j_cutRend {Y : Type} {fc : Y → Fm} {Lc : Y → List HP} (x : Y) (hf : Sub (fc x) fm) (hL : Pk L (Lc x)) : J n fm L (cutR n fc Lc Q .normal) :=
  fun a w hr hs => .inl ⟨rfl, x, hr.sub hf, hs.pk hL⟩
theorem j_cutRret {Y : Type} {fc : Y → Fm} {Lc : Y → List HP} (h : J n fm L (Q .ret)) : J n fm L (cutR n fc Lc Q .ret) :=
  fun a w hr hs => .inr ⟨by simp, h a w hr hs⟩
theorem j_cutRexit {Y : Type} {fc : Y → Fm} {Lc : Y → List HP} {id : Nat} (h : J n fm L (Q (.exit id))) : J n fm L (cutR n fc Lc Q (.exit id)) :=
  fun a w hr hs => .inr ⟨by simp, h a w hr hs⟩
end

section
variable {P : Program} {EE : EX} {n : Nat} {fm : Fm} {L : List HP} {ops : Array Oper} {K : Act → World → Prop} {rest : List Oper} {ty : TypeId} {pos : String} {after : Array Edge} {d : Tmp} {α : Type} [Enc α]

theorem j_writeN {op : Op} (hcls : cls P op = .w) {M : List HP} (hrun : ∀ a w, Rep n fm a → Sat L w → ∃ v w', (execOp a.eval ⟨none, op, ty, pos, after, none⟩).run P w = .ok (.value v) w' ∧ Sat M w')
    (k : J n fm M (runS P EE ops K rest)) : J n fm L (runS P EE ops K (⟨none, op, ty, pos, after, none⟩ :: rest)) := by
  intro a w hr hw
  refine runS_pos rfl ?_
  obtain ⟨v, w', h1, h3⟩ := hrun a w hr hw
  show doS P EE _ _ a w (cls P op)
  rw [hcls]
  simp only [doS, h1]
  exact afterW_value (k _ w' hr h3)

theorem j_newA {op : Op} {T : TypeId} {l : List Value} {f : Nat → Value} {A : Nat → HP} [∀ b, Loc (A b)] (hcls : cls P op = .n) (hrun : ∀ a w, Rep n fm a → (execOp a.eval ⟨some d, op, ty, pos, after, none⟩).run P w = .ok (.value (f w.heap.size)) (w.alloc (.cells l.toArray T))) (hd : Nat.blt d n = true)
    (hA : ∀ (w : World) (b : Nat), w.heap[b]? = some (.cells l.toArray T (0, 0)) → A b w (fun c => b ≤ c))
    (k : ∀ b, J n ((d, f b) :: fm) (A b :: L) (runS P EE ops K rest)) : J n fm L (runS P EE ops K (⟨some d, op, ty, pos, after, none⟩ :: rest)) := by
  intro a w hr hw
  refine runS_pos rfl ?_
  show doS P EE _ _ a w (cls P op)
  rw [hcls]
  exact ⟨_, f, fun w' => hrun a w' hr, k _ _ _ (hr.put hd _) (hw.new (hA _ _ (heap_alloc_new w _)) (fun b hb => heap_alloc_old w _ hb) ⟨rfl, rfl, rfl⟩)⟩

theorem sat_shrink {T : TypeId} {a : Option Addr} {cap : Nat} {ls : List α} {L' : List HP} {w : World} (k : Nat) (hu : Up L (Sl T a cap ls) (Sl T a cap (ls.take k)) L') (hw : Sat L w) : Sat L' w := by
  refine hw.up hu (fun S hS => ⟨?_, fun _ _ _ => rfl⟩) (Kept0.refl w)
  refine ⟨map_enc_len _, ?_⟩
  rcases hS.2 with ⟨h1, h0⟩ | ⟨b, junk, ha, hSb, hh, hc1, hc2, hc3⟩
  · have : ls = [] := by simpa using h0
    subst this
    exact .inl ⟨h1, by simp⟩
  · refine .inr ⟨b, ((ls.drop k).map (Enc.enc (α := α))).flatten ++ junk, ha, .inl hSb, ?_, hc1, ?_, ?_⟩
    · rw [hh, ← List.append_assoc, ← List.flatten_append, ← List.map_append, List.take_append_drop]
    · rw [List.length_append, flatten_length _ (map_enc_len _), ← Nat.add_assoc, ← Nat.add_mul, ← List.length_append, ← List.map_append, List.take_append_drop]
      exact hc2
    · simp at hc3 ⊢; omega

theorem j_recap {X : Act → World → Prop} {T : TypeId} {a : Option Addr} {cap c : Nat} {ls : List α} {L' : List HP} (hu : Up L (Sl T a cap ls) (Sl T a c ls) L') (h1 : ls.length ≤ c) (h2 : c ≤ cap) (h : J n fm L' X) : J n fm L X := by
  intro aa w hr hw
  refine h aa w hr (hw.up hu (fun S hS => ⟨?_, fun _ _ _ => rfl⟩) (Kept0.refl w))
  refine ⟨map_enc_len _, ?_⟩
  rcases hS.2 with ⟨h3, h0⟩ | ⟨b, junk, ha, hSb, hh, hc1, hc2, hc3⟩
  · exact .inl ⟨by omega, h0⟩
  · exact .inr ⟨b, junk, ha, .inl hSb, hh, by omega, Nat.le_trans (Nat.mul_le_mul_right _ h2) hc2, by simpa using h1⟩

theorem zeroCells_one {z : Array Value} {m : Nat} (h : ∀ v ∈ z.toList, v.oneCell' = true) : ∀ v ∈ (Builtin.zeroCells z m).toList, v.oneCell' = true := by
  intro v hv
  simp [Builtin.zeroCells] at hv
  obtain ⟨i, hi, rfl⟩ := hv
  have hz : 0 < z.size := by
    rcases Nat.eq_zero_or_pos z.size with h0 | h0
    · rw [h0] at hi; simp at hi
    · exact h0
  have hm : i % z.size < z.size := Nat.mod_lt _ hz
  rw [getElem!_pos z _ hm]
  exact h _ (by simp)
theorem zeroCells_len {z : Array Value} {m : Nat} : (Builtin.zeroCells z m).toList.length = m * z.size := by
  simp [Builtin.zeroCells]

/-- an owned slice lies at an array's head, or has no room -/
theorem j_sl_or {X : Act → World → Prop} {T : TypeId} {a : Option Addr} {cap : Nat} {ls : List α} (hA : At L (Sl T a cap ls)) (h : ls.length ≤ cap → cap ≤ maxLen → ((cap = 0 ∧ ls = []) ∨ ∃ b, a = some ⟨b, 0, none⟩) → J n fm L X) : J n fm L X := by
  intro aa w hr hw
  obtain ⟨S, hS⟩ := hw.at hA
  rcases hS.2 with ⟨h1, h0⟩ | ⟨b, junk, ha, _, _, hc1, _, hc3⟩
  · have : ls = [] := by simpa using h0
    subst this
    exact h (by simp) (by simp [h1]) (.inl ⟨h1, rfl⟩) aa w hr hw
  · exact h (by simpa using hc3) hc1 (.inr ⟨b, ha⟩) aa w hr hw
theorem j_sees {X : Act → World → Prop} {M G : List HP} {p : World → Prop} {q : Prop} (hpk : Pk L (M ++ G)) (hv : Sees M p) (hp : ∀ w, p w → q) (h : q → J n fm L X) : J n fm L X :=
  fun aa w hr hw => h (hp w (hv w (hw.pk hpk).append_left)) aa w hr hw
theorem Vw.spot {w : World} {a : Option Addr} {ls : List α} (h : Vw w a ls) : ∀ ad, a = some ad → ad.spot = none ∨ ls = [] := by
  intro ad ha
  rcases h.2 with h0 | ⟨b, o, h1, _⟩
  · exact .inr (by simpa using h0)
  · rw [h1] at ha; obtain rfl := Option.some.inj ha; exact .inl rfl
theorem Sees.off {M : List HP} {a : Option Addr} {ls : List α} (h : Sees M (fun w => Vw w a ls)) (k cap : Nat) (hk : ls.length ≤ cap) : Sees M (fun w => Vw w (offA a k cap (Enc.sz α)) (ls.drop k)) := fun w hw => (h w hw).off k cap hk (h w hw).spot
theorem Sees.take {M : List HP} {a : Option Addr} {ls : List α} (h : Sees M (fun w => Vw w a ls)) (k : Nat) : Sees M (fun w => Vw w a (ls.take k)) := fun w hw => (h w hw).take k
omit [Enc α] in
theorem offA_zero' {a : Option Addr} {cap sz : Nat} {ls : List α} (h : (cap = 0 ∧ ls = []) ∨ ∃ b, a = some ⟨b, 0, none⟩) : offA a 0 cap sz = a := by
  rcases h with ⟨h, _⟩ | ⟨b, rfl⟩
  · unfold offA; rw [if_pos h]
  · exact offA_zero (fun ad h => by simp at h; subst h; rfl)
theorem offA_none {a : Option Addr} {k cap sz : Nat} (h : offA a k cap sz = none) : a = none := by
  unfold offA at h
  split at h
  · exact h
  · simpa using h

/-- 'clear(x[k0:])', where what is cleared isn't looked at any more -/
theorem j_clear {t e : TypeId} {n1 by_ : Nat} {d1 : TypeDesc} {z : Value} {x : Operand} [hs : TyC P t (.slice e) n1] [he : TyC P e d1 (Enc.sz α)] [hz : TyZ P e z by_] {cap : Nat} {a a0 : Option Addr} {dlen dcap : Nat} {ls : List α} {L' : List HP} (k0 : Nat)
    (hzs : z.cells.size = Enc.sz α) (hzo : ∀ v ∈ z.cells.toList, v.oneCell' = true) (hx : ev fm x = some (.slice a0 dlen dcap)) (ha : dlen = 0 ∨ ∃ b, a = some ⟨b, 0, none⟩ ∧ a0 = some ⟨b, 0 + k0 * Enc.sz α, none⟩) (hfit : k0 + dlen = ls.length)
    (hA : Up L (Sl e a cap ls) (Sl e a cap (ls.take k0)) L')
    (k : J n fm L' (runS P EE ops K rest)) : J n fm L (runS P EE ops K (⟨none, .call ⟨.builtin .clear, #[x], #[t]⟩, ty, pos, after, none⟩ :: rest)) := by
  refine j_writeN (by rfl) (fun aa w hr hw => ?_) k
  rcases ha with h0 | ⟨b, rfl, ha⟩
  · subst h0
    refine ⟨.tuple #[], w, ?_, sat_shrink k0 hA hw⟩
    cases a0 <;> simp [execOp, resolve, invoke, builtin, hr.ev hx, Builtin.clear_, run_underlying hs.und]
  · subst ha
    obtain ⟨i, hi, hL'⟩ := hA.get
    obtain ⟨S, hS⟩ := hw.get hi
    rw [Nat.zero_add] at hx
    rcases Nat.eq_zero_or_pos dlen with h0 | hpos
    · subst h0
      refine ⟨.tuple #[], w, ?_, sat_shrink k0 hA hw⟩
      simp [execOp, resolve, invoke, builtin, hr.ev hx, Builtin.clear_, run_underlying hs.und]
    · rcases hS.2 with ⟨_, h0⟩ | ⟨b', junk, hb, _, hh, hc1, hc2, hc3⟩
      · have : ls = [] := by simpa using h0
        subst this
        simp at hfit; omega
      · simp only [Option.some.injEq, Addr.mk.injEq] at hb
        obtain ⟨rfl, _⟩ := hb
        have hfl := flatten_length _ (map_enc_len ls)
        rw [List.length_map] at hfl hc2 hc3
        have hzl : (Builtin.zeroCells z.cells dlen).toList.length = dlen * Enc.sz α := by rw [zeroCells_len, hzs]
        have hsum : k0 * Enc.sz α + dlen * Enc.sz α = ls.length * Enc.sz α := by rw [← Nat.add_mul, hfit]
        have hst := run_storeCells_at P b (k0 * Enc.sz α) e (Builtin.zeroCells z.cells dlen).toList 0 _ w hh (by rw [hzl]; simp [hfl]; omega) (zeroCells_one hzo)
        have hzv : (zeroValue e).run P w = .ok z w := by
          have h1 := hz.zero
          cases hinf : P.info? e with
          | none => simp [hinf] at h1
          | some inf =>
            simp [hinf] at h1
            simp [zeroValue, typeInfo, hinf, h1]
        have hrun : (Builtin.clear_ #[t] ty #[.slice (some ⟨b, k0 * Enc.sz α, none⟩) dlen dcap]).run P w = .ok (.tuple #[]) (w.setRow b (((ls.map (Enc.enc (α := α))).flatten ++ junk).toArray.toList.take (k0 * Enc.sz α + 0) ++ (Builtin.zeroCells z.cells dlen).toList ++ ((ls.map (Enc.enc (α := α))).flatten ++ junk).toArray.toList.drop (k0 * Enc.sz α + 0 + (Builtin.zeroCells z.cells dlen).toList.length)).toArray) := by
          obtain ⟨m, rfl⟩ : ∃ m, dlen = m + 1 := ⟨dlen - 1, by omega⟩
          simp only [Builtin.clear_, Sem.run_bind, List.getElem?_toArray, List.getElem?_cons_zero, run_underlying hs.und, Result.andThen_ok, hzv, hst, Sem.run_pure]
        refine ⟨.tuple #[], w.setRow b _, by
          simp only [execOp, resolve, invoke, builtin, Sem.run_bind, Sem.run_pure, Result.andThen_ok, List.map_toArray, List.map_cons, List.map_nil, hr.ev hx, hrun]
          exact rfl, hw.up hA (fun S' hS' => ?_) ⟨rfl, rfl, rfl⟩⟩
        rcases hS'.2 with ⟨hcap, h0⟩ | ⟨b', junk', hb', hSb, hh', h1, h2, h3⟩
        · have h00 : ls = [] := by simpa using h0
          subst h00
          simp at hfit; omega
        · simp only [Option.some.injEq, Addr.mk.injEq] at hb'
          obtain ⟨rfl, _⟩ := hb'
          refine ⟨⟨map_enc_len _, .inr ⟨b, (Builtin.zeroCells z.cells dlen).toList ++ junk, rfl, .inl hSb, ?_, hc1, ?_, ?_⟩⟩, fun q hq hn => setRow_other w b q _ (fun e => hn (e ▸ hSb))⟩
          · refine (setRow_heap w b _ _ e (0, 0) hh).trans ?_
            congr 2
            simp only [Nat.add_zero]
            have e1 : List.take (k0 * Enc.sz α) ((ls.map (Enc.enc (α := α))).flatten ++ junk) = (List.map (Enc.enc (α := α)) (ls.take k0)).flatten := by
              rw [List.take_append_of_le_length (by rw [hfl]; exact Nat.mul_le_mul_right _ (by omega)), List.map_take]
              exact take_flat _ k0 (map_enc_len ls)
            have e2 : List.drop (k0 * Enc.sz α + (Builtin.zeroCells z.cells dlen).toList.length) ((ls.map (Enc.enc (α := α))).flatten ++ junk) = junk := by
              rw [hzl, hsum, ← hfl, List.drop_left]
            rw [e1, e2, List.append_assoc]
          · rw [List.length_map, List.length_append, hzl, List.length_take, Nat.min_eq_left (by omega), ← Nat.add_assoc, hsum]; exact hc2
          · rw [List.length_map, List.length_take]; omega

theorem fold_put (off : Nat) : ∀ (l : List Value) (o : Nat) (cs : Array Value), off + o + l.length ≤ cs.size → (l.zipIdx o).foldl (fun (cs : Array Value) (p : Value × Nat) => cs.setIfInBounds (off + p.2) p.1) cs = (cs.toList.take (off + o) ++ l ++ cs.toList.drop (off + o + l.length)).toArray
  | [], o, cs, h => by simp
  | y :: l, o, cs, h => by
    simp only [List.length_cons] at h
    simp only [List.zipIdx_cons, List.foldl_cons]
    rw [fold_put off l (o + 1) _ (by simp; omega)]
    apply Array.toList_inj.1
    simp only [Array.toList_setIfInBounds]
    have hlt : off + o < cs.toList.length := by simp; omega
    rw [List.drop_set_of_lt (by omega), List.take_set, show off + (o + 1) = off + o + 1 from by omega, List.take_succ_eq_append_getElem hlt, List.set_append_right _ _ (by simp; omega)]
    have : off + o - (List.take (off + o) cs.toList).length = 0 := by simp; omega
    rw [this]
    simp only [List.set_cons_zero, List.append_assoc, List.cons_append, List.nil_append, List.length_cons]
    rw [show off + o + 1 + l.length = off + o + (l.length + 1) from by omega]

def LitOf (fm : Fm) : Nat → List (Nat × Operand) → List Value → Prop
  | _, [], [] => True
  | i, (j, x) :: ps, u :: us => j = i ∧ ev fm x = some u ∧ LitOf fm (i + 1) ps us
  | _, _, _ => False

theorem fill_lit {sz : Nat} : ∀ (us : List Value) (i : Nat) (cs : Array Value), (∀ u ∈ us, u.cells.toList.length = sz) → cs.size = (i + us.length) * sz →
    Instr.fill (fun i => some (i * sz, sz)) cs (us.zipIdx i |>.map fun p => (p.2, p.1)) = some (cs.toList.take (i * sz) ++ (us.map fun u => u.cells.toList).flatten).toArray
  | [], i, cs, _, hcs => by
    simp only [List.length_nil, Nat.add_zero] at hcs
    simp only [List.zipIdx_nil, List.map_nil, Instr.fill, List.flatten_nil, List.append_nil]
    rw [List.take_of_length_le (by simp [hcs])]
  | u :: us, i, cs, hu, hcs => by
    have h1 : u.cells.toList.length = sz := hu u (List.mem_cons_self ..)
    have h1' : u.cells.size = sz := by simpa using h1
    simp only [List.length_cons] at hcs
    have hm : (i + (us.length + 1)) * sz = i * sz + sz + us.length * sz := by rw [Nat.add_mul, Nat.add_mul, Nat.one_mul]; omega
    simp only [List.zipIdx_cons, List.map_cons, Instr.fill, h1']
    rw [if_neg (by simp; omega)]
    have hf : u.cells.zipIdx.foldl (fun (cs : Array Value) (p : Value × Nat) => cs.setIfInBounds (i * sz + p.2) p.1) cs = (cs.toList.take (i * sz) ++ u.cells.toList ++ cs.toList.drop (i * sz + sz)).toArray := by
      rw [← Array.foldl_toList]
      have := fold_put (i * sz) u.cells.toList 0 cs (by rw [h1]; omega)
      simpa [h1'] using this
    have hsize : (cs.toList.take (i * sz) ++ u.cells.toList ++ cs.toList.drop (i * sz + sz)).toArray.size = (i + 1 + us.length) * sz := by
      have hm2 : (i + 1 + us.length) * sz = i * sz + sz + us.length * sz := by rw [Nat.add_mul, Nat.add_mul, Nat.one_mul]
      simp only [List.size_toArray, List.length_append, List.length_take, List.length_drop, h1, Array.length_toList]
      omega
    have := fill_lit us (i + 1) (cs.toList.take (i * sz) ++ u.cells.toList ++ cs.toList.drop (i * sz + sz)).toArray (fun v hv => hu v (List.mem_cons_of_mem _ hv)) hsize
    refine Eq.trans (congrArg (fun z => Instr.fill (fun i => some (i * sz, sz)) z (us.zipIdx (i + 1) |>.map fun p => (p.2, p.1))) hf) (this.trans ?_)
    congr 2
    simp only [List.flatten_cons]
    have hl : (List.take (i * sz) cs.toList ++ u.cells.toList).length = (i + 1) * sz := by
      rw [List.length_append, List.length_take, h1, Nat.add_mul, Nat.one_mul, Nat.min_eq_left (by simp; omega)]
    rw [← List.append_assoc, List.take_left' hl]

theorem LitOf.parts {fm : Fm} {a : Act} {n : Nat} (hr : Rep n fm a) : ∀ {ps : List (Nat × Operand)} {us : List Value} {i : Nat}, LitOf fm i ps us → ps.map (fun p => (p.1, a.eval p.2)) = (us.zipIdx i).map fun p => (p.2, p.1)
  | [], [], _, _ => rfl
  | (j, x) :: ps, u :: us, i, ⟨h1, h2, h3⟩ => by
    simp only [List.map_cons, List.zipIdx_cons, hr.ev h2, h1]
    rw [LitOf.parts hr h3]
  | [], _ :: _, _, h => h.elim
  | (_, _) :: _, [], _, h => h.elim

/-- '[]T{x, y, ..}', told: an owned slice -/
theorem j_lits {t e : TypeId} {n1 by_ m : Nat} {d1 : TypeDesc} {z : Value} {ps : List (Nat × Operand)} [hs : TyC P t (.slice e) n1] [he : TyC P e d1 (Enc.sz α)] [hz : TyZ P e z by_] (hzs : z.cells.size = Enc.sz α) (us : List Value) (vs : List α) (hp : LitOf fm 0 ps us) (hv : us.map (fun u => u.cells.toList) = vs.map Enc.enc) (hm : vs.length = m) (hm0 : 0 < m)
    (hsz : m * Enc.sz α ≤ 16777216) (hd : Nat.blt d n = true) (k : ∀ b, J n ((d, .slice (some ⟨b, 0, none⟩) m m) :: fm) (Sl e (some ⟨b, 0, none⟩) m vs :: L) (runS P EE ops K rest)) : J n fm L (runS P EE ops K (⟨some d, .buildSlice t m ps.toArray, ty, pos, after, none⟩ :: rest)) := by
  subst hm
  have hul : us.length = vs.length := by simpa using congrArg List.length hv
  have hpos := Enc.pos (α := α)
  refine j_newA (T := e) (l := (vs.map (Enc.enc (α := α))).flatten) (f := fun b => .slice (some ⟨b, 0, none⟩) vs.length vs.length) (A := fun b => Sl e (some ⟨b, 0, none⟩) vs.length vs) rfl (fun a w hr => ?_) hd (fun w b h => ?_) k
  · have h1 := he.size
    have h2 := hz.zero
    cases hinf : P.info? e with
    | none => simp [hinf] at h1
    | some inf =>
      simp [hinf] at h1 h2
      have hus : ∀ u ∈ us, u.cells.toList.length = Enc.sz α := fun u hu => by
        have : u.cells.toList ∈ us.map (fun u => u.cells.toList) := List.mem_map.2 ⟨u, hu, rfl⟩
        rw [hv] at this
        exact map_enc_len vs _ this
      have hge : ¬ (16777216 < vs.length * Enc.sz α) := by omega
      have h0 : vs.length * Enc.sz α ≠ 0 := Nat.ne_of_gt (Nat.mul_pos hm0 hpos)
      have hfill : ∀ f : Nat → Value, Instr.fill (fun i => some (i * Enc.sz α, Enc.sz α)) ((Array.range (vs.length * Enc.sz α)).map f) (ps.map (fun p => (p.1, a.eval p.2))) = some (vs.map (Enc.enc (α := α))).flatten.toArray := fun f => by
        rw [hp.parts hr, fill_lit us 0 _ hus (by simp [hul]), hv]
        simp
      simp only [execOp, Instr.buildSlice, run_underlying hs.und, Sem.run_bind, Result.andThen_ok, sizeOf, typeInfo, run_program, hinf, Sem.run_pure, h1, Nat.reducePow, gt_iff_lt, hge, if_false, h0, zeroValue, h2, newRow, run_newObj, List.map_toArray]
      rw [hfill]
      rfl
  · refine ⟨map_enc_len vs, .inr ⟨b, [], rfl, Nat.le_refl _, ?_, ?_, ?_, by simp⟩⟩
    · rw [List.append_nil]; exact h
    · have : vs.length ≤ vs.length * Enc.sz α := Nat.le_mul_of_pos_right _ hpos
      unfold maxLen; omega
    · simp
end
end Go.Proofs.Ytnmfpgfgjjmfhaa
