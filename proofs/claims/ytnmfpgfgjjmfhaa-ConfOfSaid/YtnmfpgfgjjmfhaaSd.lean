/- Places of slices whose array is known by its number. -/
import Derived.Test.YtnmfpgfgjjmfhaaSc
set_option linter.unusedVariables false
set_option linter.unusedSimpArgs false
namespace Go.Proofs.Ytnmfpgfgjjmfhaa
open Go
section
variable {P : Program} {EE : EX} {n : Nat} {fm : Fm} {L : List HP} {ops : Array Oper} {K : Act → World → Prop} {rest : List Oper} {ty : TypeId} {pos : String} {after : Array Edge} {d : Tmp} {α : Type} [Enc α]

theorem vw_cell {w : World} {b o : Nat} {ls : List α} (h : Vw w (some ⟨b, o, none⟩) ls) {j : Nat} {y : α} (hj : ls[j]? = some y) {q : Nat} {v : Value} (hv : (Enc.enc y)[q]? = some v) : w.cell? ⟨b, o + j * Enc.sz α + q, none⟩ = some v := by
  rcases h.2 with h0 | ⟨b', o', ha, hc⟩
  · have : ls = [] := by simpa using h0
    subst this
    simp at hj
  · simp only [Option.some.injEq, Addr.mk.injEq] at ha
    obtain ⟨rfl, rfl, _⟩ := ha
    exact hc j (Enc.enc y) (by rw [List.getElem?_map, hj]; rfl) q v hv

/-- the place of an element -/
theorem j_idxS {t e T : TypeId} {n1 : Nat} {d1 : TypeDesc} {x y : Operand} {b len cap cap' : Nat} {ki : IntKind} {i : Int} {ls : List α} [hs : TyC P t (.slice e) n1] [he : TyC P e d1 (Enc.sz α)]
    (hx : ev fm x = some (.slice (some ⟨b, 0, none⟩) len cap)) (hy : ev fm y = some (.int ki i)) (hA : At L (Sl T (some ⟨b, 0, none⟩) cap' ls)) (hlen : len = ls.length) (j : Nat) (hj : i = (j : Int)) (hlt : j < ls.length) (hd : Nat.blt d n = true)
    (k : J n ((d, .pointer (some ⟨b, 0 + j * Enc.sz α, none⟩)) :: fm) L (runS P EE ops K rest)) : J n fm L (runS P EE ops K (⟨some d, .indexAddr t x y, ty, pos, after, none⟩ :: rest)) :=
  j_idx (M := L) (G := []) (ls := ls) hx hy (by rw [List.append_nil]; exact .refl) (seesL hA) hlen j hj hlt hd (fun b' o' ha hc => by
    simp only [Option.some.injEq, Addr.mk.injEq] at ha
    obtain ⟨rfl, rfl, _⟩ := ha
    exact k)
/-- .. and what is there -/
theorem j_ldS {t T : TypeId} {d1 : TypeDesc} {n1 : Nat} {x : Operand} {b o cap' : Nat} {v : Value} {ls : List α} {y : α} [ht : TyC P t d1 n1]
    (hx : ev fm x = some (.pointer (some ⟨b, o, none⟩))) (hA : At L (Sl T (some ⟨b, 0, none⟩) cap' ls)) (j : Nat) (hj : ls[j]? = some y) (q : Nat) (ho : o = 0 + j * Enc.sz α + q) (hv : (Enc.enc y)[q]? = some v) (ha : aggT d1 = false) (hd : Nat.blt d n = true)
    (k : J n ((d, v) :: fm) L (runS P EE ops K rest)) : J n fm L (runS P EE ops K (⟨some d, .load t x, ty, pos, after, none⟩ :: rest)) :=
  j_loadv (M := L) (G := []) ha hx (by rw [List.append_nil]; exact .refl) (fun w hw => by rw [ho]; exact vw_cell (seesL hA w hw) hj hv) hd k

/-- the place of an element of what stood before the call -/
theorem j_idxO {t e : TypeId} {n1 : Nat} {d1 : TypeDesc} {x y : Operand} {b o len cap : Nat} {ki : IntKind} {i : Int} {ls : List α} {W : World} [hs : TyC P t (.slice e) n1] [he : TyC P e d1 (Enc.sz α)]
    (hx : ev fm x = some (.slice (some ⟨b, o, none⟩) len cap)) (hy : ev fm y = some (.int ki i)) (hA : At L (Old W)) (hv : Vw W (some ⟨b, o, none⟩) ls) (hlen : len = ls.length) (j : Nat) (hj : i = (j : Int)) (hlt : j < ls.length) (hd : Nat.blt d n = true)
    (k : J n ((d, .pointer (some ⟨b, o + j * Enc.sz α, none⟩)) :: fm) L (runS P EE ops K rest)) : J n fm L (runS P EE ops K (⟨some d, .indexAddr t x y, ty, pos, after, none⟩ :: rest)) :=
  j_idx (M := L) (G := []) (ls := ls) hx hy (by rw [List.append_nil]; exact .refl) (fun w hw => let ⟨S, hS⟩ := hw.at hA; sees_old hv w (by
    refine ⟨fun A h => by simp at h; subst h; infer_instance, fun _ => 0, fun i A h => ?_⟩
    match i with
    | 0 => simp at h; subst h; exact ⟨hS.1, fun b hb => ⟨rfl, (hS.2 b hb).2⟩⟩
    | n + 1 => simp at h)) hlen j hj hlt hd (fun b' o' ha hc => by
    simp only [Option.some.injEq, Addr.mk.injEq] at ha
    obtain ⟨rfl, rfl, _⟩ := ha
    exact k)
theorem old_cell {W w : World} {S : Nat → Prop} (hS : Old W w S) {b o : Nat} {ls : List α} (hv : Vw W (some ⟨b, o, none⟩) ls) {j : Nat} {y : α} (hj : ls[j]? = some y) {q : Nat} {v : Value} (hq : (Enc.enc y)[q]? = some v) : w.cell? ⟨b, o + j * Enc.sz α + q, none⟩ = some v := by
  have h1 := vw_cell hv hj hq
  have hlt : b < W.heap.size := by
    rcases Nat.lt_or_ge b W.heap.size with h | h
    · exact h
    · simp [World.cell?, Array.getElem?_eq_none h] at h1
  rw [← h1]
  simp only [World.cell?, (hS.2 b hlt).2]
theorem j_ldO {t : TypeId} {d1 : TypeDesc} {n1 : Nat} {x : Operand} {b o p : Nat} {v : Value} {ls : List α} {y : α} {W : World} [ht : TyC P t d1 n1]
    (hx : ev fm x = some (.pointer (some ⟨b, p, none⟩))) (hA : At L (Old W)) (hv : Vw W (some ⟨b, o, none⟩) ls) (j : Nat) (hj : ls[j]? = some y) (q : Nat) (ho : p = o + j * Enc.sz α + q) (hq : (Enc.enc y)[q]? = some v) (ha : aggT d1 = false) (hd : Nat.blt d n = true)
    (k : J n ((d, v) :: fm) L (runS P EE ops K rest)) : J n fm L (runS P EE ops K (⟨some d, .load t x, ty, pos, after, none⟩ :: rest)) :=
  j_loadv (M := L) (G := []) ha hx (by rw [List.append_nil]; exact .refl) (fun w hw => by
    obtain ⟨S, hS⟩ := hw.at hA
    rw [ho]; exact old_cell hS hv hj hq) hd k
theorem vw_some {w : World} {a : Option Addr} {ls : List α} (h : Vw w a ls) (hne : 0 < ls.length) : ∃ b o, a = some ⟨b, o, none⟩ := by
  rcases h.2 with h0 | ⟨b, o, ha, _⟩
  · have : ls = [] := by simpa using h0
    subst this
    simp at hne
  · exact ⟨b, o, ha⟩
end

/-- a piece of memory that a slice of bytes owns -/
abbrev Pc := Option Addr × Nat × List UInt8
def hdOf (p : Pc) : Hd := ⟨p.1, p.2.2.length, p.2.1⟩
end Go.Proofs.Ytnmfpgfgjjmfhaa
