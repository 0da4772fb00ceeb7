/- Interface values, shifts to the left, a string's bytes appended. -/
import Derived.Test.YtnmfpgfgjjmfhaaSe
import Derived.Lib.AppendStr
set_option linter.unusedVariables false
set_option linter.unusedSimpArgs false
namespace Go.Proofs.Ytnmfpgfgjjmfhaa
open Go

section
variable {P : Program} {EE : EX} {n : Nat} {fm : Fm} {L : List HP} {ops : Array Oper} {K : Act → World → Prop} {rest : List Oper} {ty : TypeId} {pos : String} {after : Array Edge} {d : Tmp}

def notIface : TypeDesc → Bool
  | .interface _ => false
  | _ => true
theorem j_mkIface {t : TypeId} {d1 : TypeDesc} {n1 : Nat} {x : Operand} {v : Value} [ht : TyC P t d1 n1] (hni : notIface d1 = true) (hx : ev fm x = some v) (hd : Nat.blt d n = true)
    (k : J n ((d, .iface t v) :: fm) L (runS P EE ops K rest)) : J n fm L (runS P EE ops K (⟨some d, .makeInterface t x, ty, pos, after, none⟩ :: rest)) :=
  j_pure (by first | (simp [cls]; done) | (simp only [cls]; split <;> simp; done) | (simp only [cls]; split <;> (try split) <;> simp)) (fun a w hr => by
    have hu := run_underlying (P := P) (w := w) ht.und
    simp only [execOp, hr.ev hx, Instr.makeInterface, Sem.run_bind, hu, Result.andThen_ok]
    cases d1 <;> first | (simp [notIface] at hni; done) | simp) hd k
/-- the type asked for is the value's -/
theorem j_assertT {t xt : TypeId} {d1 : TypeDesc} {n1 : Nat} {x : Operand} {v : Value} [ht : TyC P t d1 n1] (hni : notIface d1 = true) (hx : ev fm x = some (.iface t v)) (hd : Nat.blt d n = true)
    (k : J n ((d, .tuple #[v, .bool true]) :: fm) L (runS P EE ops K rest)) : J n fm L (runS P EE ops K (⟨some d, .typeAssert x xt t true, ty, pos, after, none⟩ :: rest)) :=
  j_pure (by first | (simp [cls]; done) | (simp only [cls]; split <;> simp; done) | (simp only [cls]; split <;> (try split) <;> simp)) (fun a w hr => by
    have hu := run_underlying (P := P) (w := w) ht.und
    simp only [execOp, hr.ev hx, Instr.typeAssert, Sem.run_bind, hu, Result.andThen_ok]
    cases d1 <;> first | (simp [notIface] at hni; done) | simp) hd k
/-- .. is another -/
theorem j_assertF {t xt u : TypeId} {d1 : TypeDesc} {n1 by_ : Nat} {x : Operand} {v z : Value} [ht : TyC P t d1 n1] [hz : TyZ P t z by_] (hni : notIface d1 = true) (hx : ev fm x = some (.iface u v)) (hne : Nat.beq u t = false) (hd : Nat.blt d n = true)
    (k : J n ((d, .tuple #[z, .bool false]) :: fm) L (runS P EE ops K rest)) : J n fm L (runS P EE ops K (⟨some d, .typeAssert x xt t true, ty, pos, after, none⟩ :: rest)) :=
  j_pure (by first | (simp [cls]; done) | (simp only [cls]; split <;> simp; done) | (simp only [cls]; split <;> (try split) <;> simp)) (fun a w hr => by
    have hu := run_underlying (P := P) (w := w) ht.und
    have hn : ¬ u = t := fun e => by rw [e] at hne; simp at hne
    have h0 := hz.zero
    cases hinf : P.info? t with
    | none => simp [hinf] at h0
    | some inf =>
      simp [hinf] at h0
      simp only [execOp, hr.ev hx, Instr.typeAssert, Sem.run_bind, hu, Result.andThen_ok]
      cases d1 <;> first | (simp [notIface] at hni; done) | simp [hn, zeroValue, typeInfo, hinf, h0]) hd k
/-- .. there is none -/
theorem j_assertN {t xt : TypeId} {d1 : TypeDesc} {n1 by_ : Nat} {x : Operand} {z : Value} [ht : TyC P t d1 n1] [hz : TyZ P t z by_] (hni : notIface d1 = true) (hx : ev fm x = some .nilIface) (hd : Nat.blt d n = true)
    (k : J n ((d, .tuple #[z, .bool false]) :: fm) L (runS P EE ops K rest)) : J n fm L (runS P EE ops K (⟨some d, .typeAssert x xt t true, ty, pos, after, none⟩ :: rest)) :=
  j_pure (by first | (simp [cls]; done) | (simp only [cls]; split <;> simp; done) | (simp only [cls]; split <;> (try split) <;> simp)) (fun a w hr => by
    have hu := run_underlying (P := P) (w := w) ht.und
    have h0 := hz.zero
    cases hinf : P.info? t with
    | none => simp [hinf] at h0
    | some inf =>
      simp [hinf] at h0
      simp only [execOp, hr.ev hx, Instr.typeAssert, Sem.run_bind, hu, Result.andThen_ok]
      cases d1 <;> first | (simp [notIface] at hni; done) | simp [zeroValue, typeInfo, hinf, h0]) hd k

theorem strCells_enc (s : ByteArray) : Lib.strCells s = (s.data.toList.map (Enc.enc (α := UInt8))).flatten := by
  unfold Lib.strCells
  generalize s.data.toList = l
  induction l with
  | nil => rfl
  | cons x l ih => simp only [List.map_cons, List.flatten_cons, ← ih]; rfl
theorem run_append_str {w : World} {t u e ty : TypeId} {n1 n3 : Nat} [hs : TyC P t (.slice e) n1] [he : TyC P e (.int .u8) 1] [hz : TyZ P e (.int .u8 0) 1] [hu : TyC P u .string n3]
    {a : Option Addr} {cap : Nat} {xs : List (List Value)} {S : Nat → Prop} (hO : SlO e 1 a cap xs w S) (s : ByteArray) (h63 : xs.length + s.size ≤ maxLen) (hbytes : xs.length + s.size ≤ 140737488355328) :
    ∃ a' cap' w', (Builtin.append_ #[t, u] ty #[.slice a xs.length cap, .string s]).run P w = .ok (.slice a' (xs ++ s.data.toList.map (Enc.enc (α := UInt8))).length cap') w' ∧
      SlO e 1 a' cap' (xs ++ s.data.toList.map (Enc.enc (α := UInt8))) w' (fun b => S b ∨ w.heap.size ≤ b) ∧ (∀ b, b < w.heap.size → ¬ S b → w'.heap[b]? = w.heap[b]?) ∧ Kept0 w w' := by
  obtain ⟨ys, hys⟩ : ∃ ys, ys = s.data.toList.map (Enc.enc (α := UInt8)) := ⟨_, rfl⟩
  have hyn : ys.length = s.size := by rw [hys, List.length_map, Array.length_toList]; rfl
  have hy1 : ∀ y ∈ ys, y.length = 1 := fun y h => by
    rw [hys] at h
    obtain ⟨x, _, rfl⟩ := List.mem_map.1 h
    rfl
  have hfl : ys.flatten = Lib.strCells s := by rw [hys, strCells_enc]
  rw [← hys]
  have hsz := he.size
  have hzz := hz.zero
  have hby := hz.bytes
  cases hinf : P.info? e with
  | none => simp [hinf] at hsz
  | some inf =>
    simp [hinf] at hsz hzz hby
    by_cases hy : s.size = 0
    · have hy0 : ys = [] := List.length_eq_zero_iff.1 (by omega)
      subst hy0
      have hc := hO.lens.1
      refine ⟨a, cap, w, ?_, ?_, fun _ _ _ => rfl, Kept0.refl w⟩
      · have hfc : (Builtin.firstCells 1 s.size (.string s)).run P w = .ok #[] w := by
          rw [Lib.run_firstCells_string, ← hfl]; rfl
        rw [hy] at hfc
        cases a <;> simp [Builtin.append_, run_underlying hs.und, run_underlying hu.und, sizeOf, typeInfo, hinf, hsz, Builtin.lenOf, hfc, hc, hy, storeCells]
      · rw [List.append_nil]
        exact Loc.loc hO (fun b hb hS => ⟨.inl hS, rfl⟩) (Kept0.refl w)
    · have hl2 : ∀ x ∈ xs ++ ys, x.length = 1 := fun x hx => (List.mem_append.1 hx).elim (hO.1 x) (hy1 x)
      have hxl := flatten_length xs hO.1
      have hyl := flatten_length ys hy1
      have h63' : xs.length + s.size ≤ 9223372036854775807 := by simp only [maxLen] at h63; omega
      have new : ∀ (old : Nat) (cs : Array Value), cs = (xs.flatten.toArray ++ ys.flatten.toArray ++ Builtin.zeroCells (Value.int .u8 0).cells (grownCap w (xs.length + s.size) old e - (xs.length + s.size))) →
          SlO e 1 (some ⟨w.heap.size, 0, none⟩) (grownCap w (xs.length + s.size) old e) (xs ++ ys) (w.drew.alloc (.cells cs e)) (fun b => S b ∨ w.heap.size ≤ b) := by
        intro old cs hcs
        subst hcs
        have hge := grownCap_ge w (xs.length + s.size) old e
        refine ⟨hl2, .inr ⟨w.heap.size, (Builtin.zeroCells (Value.int .u8 0).cells (grownCap w (xs.length + s.size) old e - (xs.length + s.size))).toList, rfl, .inr (Nat.le_refl _), ?_, grownCap_le_maxLen w _ old e h63, ?_, by rw [List.length_append, hyn]; exact hge⟩⟩
        · have := heap_alloc_new w.drew (.cells (xs.flatten.toArray ++ ys.flatten.toArray ++ Builtin.zeroCells (Value.int .u8 0).cells (grownCap w (xs.length + s.size) old e - (xs.length + s.size))) e)
          refine Eq.trans this ?_
          congr 2
          apply Array.toList_inj.1
          simp
        · have hz0 : ∀ m, (Builtin.zeroCells (Value.int .u8 0).cells m).toList.length = m * (Value.int .u8 0).cells.size := fun m => by simp [size_zeroCells]
          rw [List.length_append (as := xs), hz0, hyn]
          show _ ≤ (xs.length + s.size) * 1 + _ * 1
          omega
      have keep : ∀ (o : Obj) (b : Nat), b < w.heap.size → (w.drew.alloc o).heap[b]? = w.heap[b]? := fun o b hb => heap_alloc_old w.drew o hb
      rcases hO.2 with ⟨rfl, rfl⟩ | ⟨b1, junk, rfl, hS, hh, hc1, hc2, hc3⟩
      · cases a with
        | some ad =>
          have hr := Lib.run_append_grow_string (P := P) w t u ty e inf (.int .u8 0) hs.und hu.und hinf hzz ad 0 0 [] (by simp) (by intro j v h; simp at h) s (by omega) (by simp at h63' ⊢; omega) (growslice_fits (by omega) (by simp at hbytes; rw [hby]; omega))
          have hn := new 0 _ rfl
          rw [hfl] at hn
          simp only [List.flatten_nil, List.length_nil, Nat.zero_add, Array.empty_append, List.nil_append] at hn hr
          simp only [List.length_nil, List.nil_append, hyn]
          exact ⟨_, _, _, hr, hn, fun b hb _ => keep _ b hb, ⟨rfl, rfl, rfl⟩⟩
        | none =>
          have hr := run_append_nil_string (P := P) w t u ty e inf (.int .u8 0) hs.und hu.und hinf hzz s (by omega) (by simp at h63'; omega) (by simp at hbytes; rw [hby]; omega)
          have hn := new 0 _ rfl
          rw [hfl] at hn
          have ec : (Lib.strCells s).toArray = s.data.map (fun b => Value.int .u8 b.toNat) := by
            apply Array.toList_inj.1; simp [Lib.strCells]
          rw [ec] at hn
          simp only [List.flatten_nil, List.length_nil, Nat.zero_add, Array.empty_append, List.nil_append] at hn
          simp only [List.length_nil, List.nil_append, hyn]
          exact ⟨_, _, _, hr, hn, fun b hb _ => keep _ b hb, ⟨rfl, rfl, rfl⟩⟩
      · by_cases hroom : xs.length + s.size ≤ cap
        · have hfit : xs.length + s.size ≤ (xs.flatten ++ junk).toArray.size := by
            rw [List.size_toArray, List.length_append]
            omega
          have hr := Lib.run_append_room_string (P := P) w t u ty e inf hs.und hu.und hinf hsz b1 xs.length cap _ hh s hroom hfit
          refine ⟨some ⟨b1, 0, none⟩, cap, _, by rw [List.length_append, hyn]; exact hr, ⟨hl2, .inr ⟨b1, junk.drop s.size, rfl, .inl hS, ?_, hc1, ?_, by rw [List.length_append, hyn]; exact hroom⟩⟩, fun b _ hn => setRow_other w b1 b _ (fun e => hn (e ▸ hS)), ⟨rfl, rfl, rfl⟩⟩
          · refine (setRow_heap w b1 _ _ e (0, 0) hh).trans ?_
            congr 2
            apply Array.toList_inj.1
            simp only [List.toList_toArray]
            rw [Nat.mul_one] at hxl hyl
            rw [← hxl, List.take_left, List.flatten_append, List.append_assoc, List.append_assoc, hfl]
            congr 2
            rw [List.drop_append, List.drop_eq_nil_of_le (by omega)]
            simp
          · simp only [List.length_append, List.length_drop, hyn]
            omega
        · have holds : ∀ j u, xs.flatten[j]? = some u → w.cell? ((⟨b1, 0, none⟩ : Addr).add j) = some u := by
            intro j u hj
            have hlt := (List.getElem?_eq_some_iff.1 hj).1
            rw [add_lit, Nat.zero_add]
            simp only [World.cell?, hh]
            simp
            rw [List.getElem?_append_left hlt]
            exact hj
          have hr := Lib.run_append_grow_string (P := P) w t u ty e inf (.int .u8 0) hs.und hu.und hinf hzz ⟨b1, 0, none⟩ xs.length cap xs.flatten (by rw [hsz]; exact hxl) holds s (by omega) (by omega) (growslice_fits (by omega) (by rw [hby]; omega))
          have hn := new cap _ rfl
          rw [hfl] at hn
          rw [List.length_append, hyn]
          exact ⟨_, _, _, hr, hn, fun b hb _ => keep _ b hb, ⟨rfl, rfl, rfl⟩⟩

theorem j_appendS {t u e : TypeId} {n1 n3 : Nat} {x y : Operand} [hs : TyC P t (.slice e) n1] [he : TyC P e (.int .u8) 1] [hz : TyZ P e (.int .u8 0) 1] [hu3 : TyC P u .string n3] {a : Option Addr} {len cap : Nat} {ls : List UInt8} {s : ByteArray} {L' : Option Addr → Nat → List HP}
    (hx : ev fm x = some (.slice a len cap)) (hy : ev fm y = some (.string s)) (hu : ∀ a' cap', Up L (Sl e a cap ls) (Sl e a' cap' (ls ++ s.data.toList)) (L' a' cap'))
    (hl1 : len = ls.length) (h63 : ls.length + s.size ≤ maxLen) (hbytes : ls.length + s.size ≤ 140737488355328) (hd : Nat.blt d n = true)
    (k : ∀ a' cap', (a' = none → ls ++ s.data.toList = []) → J n ((d, .slice a' (ls ++ s.data.toList).length cap') :: fm) (L' a' cap') (runS P EE ops K rest)) :
    J n fm L (runS P EE ops K (⟨some d, .call ⟨.builtin .append, #[x, y], #[t, u]⟩, ty, pos, after, none⟩ :: rest)) := by
  subst hl1
  refine j_write (L' := fun u N => ∃ a' cap', u = .slice a' (ls ++ s.data.toList).length cap' ∧ N = L' a' cap' ∧ (a' = none → ls ++ s.data.toList = [])) (by rfl) (fun aa w hr hw => ?_) hd (fun u N ⟨a', cap', h1, h2, h3⟩ => by subst h1; subst h2; exact k a' cap' h3)
  obtain ⟨i, hi, _⟩ := (hu none 0).get
  obtain ⟨hl, own, hown⟩ := id hw
  have run : ∀ (S : Nat → Prop), Sl e a cap ls w S → _ := fun S hS => run_append_str (P := P) (ty := ty) (t := t) (u := u) (xs := ls.map (Enc.enc (α := UInt8))) hS s (by simpa using h63) (by simpa using hbytes)
  obtain ⟨a', cap', w', hrun, hO', hkeep, hk0⟩ := run _ (hown i _ hi)
  obtain ⟨i', hi', hL'⟩ := (hu a' cap').get
  rw [← List.map_append] at hrun hO'
  simp only [List.length_map] at hrun
  have hs' : Sat (L' a' cap') w' := by
    rw [hL']
    classical
    refine ⟨fun B hB => ?_, fun b => if w.heap.size ≤ b then i' else own b, fun j B hj => ?_⟩
    · rcases List.mem_or_eq_of_mem_set hB with h | h
      · exact hl B h
      · subst h; infer_instance
    · have hil : i' < L.length := (List.getElem?_eq_some_iff.1 hi').1
      obtain ⟨a2', cap2', w2', hrun2, hO2', hkeep2, hk2⟩ := run _ (hown i' _ hi')
      rw [← List.map_append] at hrun2 hO2'
      simp only [List.length_map] at hrun2
      rw [hrun2] at hrun
      simp only [Result.ok.injEq, Value.slice.injEq] at hrun
      obtain ⟨⟨rfl, _, rfl⟩, rfl⟩ := hrun
      by_cases hij : i' = j
      · subst hij
        rw [List.getElem?_set_self hil] at hj
        obtain rfl := Option.some.inj hj
        refine cast ?_ hO2'
        congr 1
        funext b
        by_cases hb : w.heap.size ≤ b <;> simp [hb]
      · rw [List.getElem?_set_ne hij] at hj
        have := hl B (List.mem_of_getElem? hj)
        refine Loc.loc (hown j B hj) (fun b hb hS => ⟨?_, hkeep2 b hb (fun he => hij (he.symm.trans hS))⟩) hk2
        show (if w.heap.size ≤ b then i' else own b) = j
        rw [if_neg (by omega)]
        exact hS
  refine ⟨_, w', _, ?_, ⟨a', cap', rfl, rfl, fun h => ?_⟩, hs'⟩
  · simp [execOp, resolve, invoke, builtin, hr.ev hx, hr.ev hy, hrun]
  · rcases hO'.2 with ⟨_, h3⟩ | ⟨b, junk, h3, _⟩
    · simpa using h3
    · rw [h] at h3; cases h3
end
end Go.Proofs.Ytnmfpgfgjjmfhaa
