/- clear, with what it leaves. -/
import Derived.Test.YtnmfpgfgjjmfhaaSb
set_option linter.unusedVariables false
set_option linter.unusedSimpArgs false
namespace Go.Proofs.Ytnmfpgfgjjmfhaa
open Go

theorem zeroCells_enc {α : Type} [Enc α] {z : Array Value} {x0 : α} (h : z.toList = Enc.enc x0) (m : Nat) : (Builtin.zeroCells z m).toList = ((List.replicate m x0).map (Enc.enc (α := α))).flatten := by
  have hz : z.size = Enc.sz α := by rw [← Array.length_toList, h, Enc.len]
  have h0 : 0 < Enc.sz α := Enc.pos
  have hl : ((List.replicate m x0).map (Enc.enc (α := α))).flatten.length = m * Enc.sz α := by rw [flatten_length _ (map_enc_len _)]; simp
  apply List.ext_getElem
  · rw [hl, zeroCells_len, hz]
  · intro i h1 h2
    rw [hl] at h2
    have hq : i / Enc.sz α < m := by rw [Nat.div_lt_iff_lt_mul h0]; exact h2
    have hr : i % Enc.sz α < Enc.sz α := Nat.mod_lt _ h0
    have hdm : i / Enc.sz α * Enc.sz α + i % Enc.sz α = i := by rw [Nat.mul_comm]; exact Nat.div_add_mod i (Enc.sz α)
    have hg := flatten_get ((List.replicate m x0).map (Enc.enc (α := α))) (i / Enc.sz α) (i % Enc.sz α) (Enc.enc x0) ((Enc.enc x0)[i % Enc.sz α]'(by rw [Enc.len]; exact hr)) (map_enc_len _) (by simp [hq]) (List.getElem?_eq_getElem _)
    rw [hdm] at hg
    obtain ⟨h3, h4⟩ := List.getElem?_eq_some_iff.1 hg
    rw [h4]
    simp only [Builtin.zeroCells, Array.toList_map, List.getElem_map, Array.toList_range, List.getElem_range]
    have hb : i % z.size < z.size := by rw [hz]; exact hr
    rw [getElem!_pos z (i % z.size) hb]
    have : z[i % z.size] = z.toList[i % z.size]'(by simpa using hb) := by simp
    rw [this]
    simp only [h, hz]

section
variable {P : Program} {EE : EX} {n : Nat} {fm : Fm} {L : List HP} {ops : Array Oper} {K : Act → World → Prop} {rest : List Oper} {ty : TypeId} {pos : String} {after : Array Edge} {d : Tmp} {α : Type} [Enc α]
theorem sat_same {T : TypeId} {a : Option Addr} {cap : Nat} {ls ls' : List α} {L' : List HP} {w : World} (he : ls' = ls) (hu : Up L (Sl T a cap ls) (Sl T a cap ls') L') (hw : Sat L w) : Sat L' w := by
  subst he
  obtain ⟨i, hi, hL'⟩ := hu.get
  have : L.set i (Sl T a cap ls') = L := by
    obtain ⟨h1, h2⟩ := List.getElem?_eq_some_iff.1 hi
    apply List.ext_getElem
    · simp
    · intro j h3 h4
      rw [List.getElem_set]
      split
      · rename_i hij; subst hij; exact h2.symm
      · rfl
  rw [hL', this]
  exact hw
theorem j_clear0 {t e : TypeId} {n1 by_ : Nat} {d1 : TypeDesc} {z : Value} {x : Operand} [hs : TyC P t (.slice e) n1] [he : TyC P e d1 (Enc.sz α)] [hz : TyZ P e z by_] {cap : Nat} {a a0 : Option Addr} {dlen dcap : Nat} {ls : List α} {L' : List HP} (k0 : Nat) (x0 : α)
    (hzs : z.cells.size = Enc.sz α) (hz0 : z.cells.toList = Enc.enc x0) (hzo : ∀ v ∈ z.cells.toList, v.oneCell' = true) (hx : ev fm x = some (.slice a0 dlen dcap)) (ha : dlen = 0 ∨ ∃ b, a = some ⟨b, 0, none⟩ ∧ a0 = some ⟨b, 0 + k0 * Enc.sz α, none⟩) (hfit : k0 + dlen = ls.length)
    (hA : Up L (Sl e a cap ls) (Sl e a cap (ls.take k0 ++ List.replicate dlen x0)) L')
    (k : J n fm L' (runS P EE ops K rest)) : J n fm L (runS P EE ops K (⟨none, .call ⟨.builtin .clear, #[x], #[t]⟩, ty, pos, after, none⟩ :: rest)) := by
  refine j_writeN (by rfl) (fun aa w hr hw => ?_) k
  rcases ha with h0 | ⟨b, rfl, ha⟩
  · subst h0
    refine ⟨.tuple #[], w, ?_, sat_same (by rw [List.take_of_length_le (by omega)]; simp) hA hw⟩
    cases a0 <;> simp [execOp, resolve, invoke, builtin, hr.ev hx, Builtin.clear_, run_underlying hs.und]
  · subst ha
    obtain ⟨i, hi, hL'⟩ := hA.get
    obtain ⟨S, hS⟩ := hw.get hi
    rw [Nat.zero_add] at hx
    rcases Nat.eq_zero_or_pos dlen with h0 | hpos
    · subst h0
      refine ⟨.tuple #[], w, ?_, sat_same (by rw [List.take_of_length_le (by omega)]; simp) hA hw⟩
      simp [execOp, resolve, invoke, builtin, hr.ev hx, Builtin.clear_, run_underlying hs.und]
    · rcases hS.2 with ⟨_, h0⟩ | ⟨b', junk, hb, _, hh, hc1, hc2, hc3⟩
      · have : ls = [] := by simpa using h0
        subst this
        simp at hfit; omega
      · simp only [Option.some.injEq, Addr.mk.injEq] at hb
        obtain ⟨rfl, _⟩ := hb
        have hfl := flatten_length _ (map_enc_len ls)
        rw [List.length_map] at hfl hc2 hc3
        have hzl : (Builtin.zeroCells z.cells dlen).toList.length = dlen * Enc.sz α := by rw [zeroCells_len, hzs]
        have hsum : k0 * Enc.sz α + dlen * Enc.sz α = ls.length * Enc.sz α := by rw [← Nat.add_mul, hfit]
        have hst := run_storeCells_at P b (k0 * Enc.sz α) e (Builtin.zeroCells z.cells dlen).toList 0 _ w hh (by rw [hzl]; simp [hfl]; omega) (zeroCells_one hzo)
        have hzv : (zeroValue e).run P w = .ok z w := by
          have h1 := hz.zero
          cases hinf : P.info? e with
          | none => simp [hinf] at h1
          | some inf =>
            simp [hinf] at h1
            simp [zeroValue, typeInfo, hinf, h1]
        have hrun : (Builtin.clear_ #[t] ty #[.slice (some ⟨b, k0 * Enc.sz α, none⟩) dlen dcap]).run P w = .ok (.tuple #[]) (w.setRow b (((ls.map (Enc.enc (α := α))).flatten ++ junk).toArray.toList.take (k0 * Enc.sz α + 0) ++ (Builtin.zeroCells z.cells dlen).toList ++ ((ls.map (Enc.enc (α := α))).flatten ++ junk).toArray.toList.drop (k0 * Enc.sz α + 0 + (Builtin.zeroCells z.cells dlen).toList.length)).toArray) := by
          obtain ⟨m, rfl⟩ : ∃ m, dlen = m + 1 := ⟨dlen - 1, by omega⟩
          simp only [Builtin.clear_, Sem.run_bind, List.getElem?_toArray, List.getElem?_cons_zero, run_underlying hs.und, Result.andThen_ok, hzv, hst, Sem.run_pure]
        refine ⟨.tuple #[], w.setRow b _, by
          simp only [execOp, resolve, invoke, builtin, Sem.run_bind, Sem.run_pure, Result.andThen_ok, List.map_toArray, List.map_cons, List.map_nil, hr.ev hx, hrun]
          exact rfl, hw.up hA (fun S' hS' => ?_) ⟨rfl, rfl, rfl⟩⟩
        rcases hS'.2 with ⟨hcap, h0⟩ | ⟨b', junk', hb', hSb, hh', h1, h2, h3⟩
        · have h00 : ls = [] := by simpa using h0
          subst h00
          simp at hfit; omega
        · simp only [Option.some.injEq, Addr.mk.injEq] at hb'
          obtain ⟨rfl, _⟩ := hb'
          refine ⟨⟨map_enc_len _, .inr ⟨b, junk, rfl, .inl hSb, ?_, hc1, ?_, ?_⟩⟩, fun q hq hn => setRow_other w b q _ (fun e => hn (e ▸ hSb))⟩
          · refine (setRow_heap w b _ _ e (0, 0) hh).trans ?_
            congr 2
            simp only [Nat.add_zero]
            have e1 : List.take (k0 * Enc.sz α) ((ls.map (Enc.enc (α := α))).flatten ++ junk) = (List.map (Enc.enc (α := α)) (ls.take k0)).flatten := by
              rw [List.take_append_of_le_length (by rw [hfl]; exact Nat.mul_le_mul_right _ (by omega)), List.map_take]
              exact take_flat _ k0 (map_enc_len ls)
            have e2 : List.drop (k0 * Enc.sz α + (Builtin.zeroCells z.cells dlen).toList.length) ((ls.map (Enc.enc (α := α))).flatten ++ junk) = junk := by
              rw [hzl, hsum, ← hfl, List.drop_left]
            rw [e1, e2, List.map_append, List.flatten_append, zeroCells_enc hz0]
          · rw [List.length_map, List.length_append, List.length_replicate, List.length_take, Nat.min_eq_left (by omega), hfit]; exact hc2
          · rw [List.length_map, List.length_append, List.length_replicate, List.length_take]; omega


/-- a row that is read alone: its mark is any -/
def Ro (T : TypeId) (b : Nat) (ls : List α) : HP := fun w S => S b ∧ ∃ junk fz, w.heap[b]? = some (.cells ((ls.map (Enc.enc (α := α))).flatten ++ junk).toArray T fz)
instance (T : TypeId) (b : Nat) (ls : List α) : Loc (Ro T b ls) := ⟨fun {w w' S S'} h k e => by
  obtain ⟨hS, junk, fz, hh⟩ := h
  obtain ⟨k1, k2⟩ := k b (lt_of_heap hh) hS
  exact ⟨k1, junk, fz, k2.trans hh⟩⟩
theorem j_ro {X : Act → World → Prop} {T : TypeId} {b cap : Nat} {ls : List α} (hne : ls ≠ []) (h : J n fm (Ro T b ls :: L) X) : J n fm (Sl T (some ⟨b, 0, none⟩) cap ls :: L) X :=
  j_imp (fun w S hS => by
    rcases hS.2 with ⟨_, h0⟩ | ⟨b', junk, hb, hSb, hh, _⟩
    · exact absurd (by simpa using h0) hne
    · simp only [Option.some.injEq, Addr.mk.injEq] at hb
      obtain ⟨rfl, _⟩ := hb
      exact ⟨hSb, junk, _, hh⟩) h
theorem sees_ro {M : List HP} {T : TypeId} {b : Nat} {ls : List α} (hA : At M (Ro T b ls)) : Sees M (fun w => Vw w (some ⟨b, 0, none⟩) ls) := Sees.of_at hA (fun w S hS => by
  obtain ⟨_, junk, fz, hh⟩ := hS
  refine ⟨map_enc_len _, .inr ⟨b, 0, rfl, fun i x hi j v hj => ?_⟩⟩
  have := flatten_get _ i j x v (map_enc_len ls) hi hj
  have hlt := (List.getElem?_eq_some_iff.1 this).1
  simp only [World.cell?, hh]
  simp
  rw [List.getElem?_append_left hlt]
  exact this)
theorem j_convMark {t e T : TypeId} {n1 n2 : Nat} {x : Operand} {b len cap : Nat} {ls : List α} {L' : List HP} [hs : TyC P t (.slice e) n1] [he : TyC P e (.int .u8) n2] (hx : ev fm x = some (.slice (some ⟨b, 0, none⟩) len cap)) (hA : Up L (Ro T b ls) (Ro T b ls) L') (hd : Nat.blt d n = true)
    (k : J n ((d, .slice (some ⟨b, 0, none⟩) len cap) :: fm) L' (runS P EE ops K rest)) : J n fm L (runS P EE ops K (⟨some d, .convert t t x, ty, pos, after, none⟩ :: rest)) := by
  refine j_write (L' := fun u N => u = .slice (some ⟨b, 0, none⟩) len cap ∧ N = L') (by simp only [cls, hs.und]) (fun aa w hr hw => ?_) hd (fun u N ⟨h1, h2⟩ => by subst h1; subst h2; exact k)
  obtain ⟨i, hi, _⟩ := hA.get
  obtain ⟨S0, hS0⟩ := hw.get hi
  obtain ⟨_, junk, fz, hh⟩ := hS0
  have hlt := lt_of_heap hh
  have hsh : w.shape? b = some (T, ((ls.map (Enc.enc (α := α))).flatten ++ junk).toArray.size) := by unfold World.shape?; rw [hh]
  refine ⟨_, w.freeze ⟨b, ((ls.map (Enc.enc (α := α))).flatten ++ junk).toArray.size, none⟩ 1, L', ?_, ⟨rfl, rfl⟩, hw.up hA (fun S hS => ?_) ⟨rfl, rfl, rfl⟩⟩
  · simp [execOp, hr.ev hx, convert, run_underlying hs.und, run_underlying he.und, markStringish, hsh]
  · obtain ⟨hSb, junk', fz', hh'⟩ := hS
    have hf : ∀ q, (w.freeze ⟨b, ((ls.map (Enc.enc (α := α))).flatten ++ junk).toArray.size, none⟩ 1).heap[q]? = if b = q then (w.heap[q]?).map (fun o => match o with | .cells c elem (lo, hi) => .cells c elem (if lo == hi then (((ls.map (Enc.enc (α := α))).flatten ++ junk).toArray.size, ((ls.map (Enc.enc (α := α))).flatten ++ junk).toArray.size + 1) else (min lo ((ls.map (Enc.enc (α := α))).flatten ++ junk).toArray.size, max hi (((ls.map (Enc.enc (α := α))).flatten ++ junk).toArray.size + 1))) | o => o) else w.heap[q]? := fun q => by
      show (w.heap.modify b _)[q]? = _
      rw [Array.getElem?_modify]
      rfl
    obtain ⟨lo, hi'⟩ := fz'
    have hx' := hf b
    rw [if_pos rfl, hh'] at hx'
    refine ⟨⟨.inl hSb, junk', _, hx'⟩, fun q hq hn => ?_⟩
    · rw [hf q, if_neg (fun e : b = q => hn (by rw [← e]; exact hSb))]

theorem vw_u8 {w : World} {a : Option Addr} {ls : List UInt8} (h : Vw w a ls) : Vw w a (ls.map fun u => (⟨u.toNat⟩ : U8)) := by
  have e : (ls.map fun u => (⟨u.toNat⟩ : U8)).map (Enc.enc (α := U8)) = ls.map (Enc.enc (α := UInt8)) := by rw [List.map_map]; rfl
  unfold Vw
  rw [e]
  exact h
/-- bytes to a string -/
theorem j_bytesU {s t e : TypeId} {n1 n2 n3 : Nat} {x : Operand} {a0 : Option Addr} {len cap : Nat} {ls : List UInt8} {M G : List HP} [hs : TyC P s (.slice e) n1] [he : TyC P e (.int .u8) n3] [ht : TyC P t .string n2]
    (hx : ev fm x = some (.slice a0 len cap)) (hpk : Pk L (M ++ G)) (hv : Sees M (fun w => Vw w a0 ls)) (hl : len = ls.length) (hn : a0 = none → ls = []) (hd : Nat.blt d n = true)
    (k : J n ((d, .string ⟨ls.toArray⟩) :: fm) L (runS P EE ops K rest)) : J n fm L (runS P EE ops K (⟨some d, .convert s t x, ty, pos, after, none⟩ :: rest)) := by
  refine j_bytes (ls := ls.map fun u => (⟨u.toNat⟩ : U8)) hx hpk (fun w hw => vw_u8 (hv w hw)) (by simpa using hl) (fun h => by rw [hn h]; rfl) hd ?_
  have : strOfNums ((ls.map fun u => (⟨u.toNat⟩ : U8)).map (·.n)) = ⟨ls.toArray⟩ := by
    rw [List.map_map]
    unfold strOfNums
    congr 2
    rw [List.map_map]
    refine (List.map_congr_left fun u _ => ?_).trans (List.map_id _)
    simp [Function.comp]
  rw [this]
  exact k
end
end Go.Proofs.Ytnmfpgfgjjmfhaa
