/- Letters as keys of a map; what a tally tells. -/
import Derived.Test.YtidamnmfobblaaaNetH
import Derived.Test.YtidamnmfobblaaaSm
set_option linter.unusedVariables false
set_option linter.unusedSimpArgs false
set_option maxRecDepth 100000
namespace Go.Proofs.Ytidamnmfobblaaa
open Go
attribute [local irreducible] Exit.then Exit.inBlock Code.wp runS bodyPost postF J runT cutQ cutR Tr Sat blk Sl Old Star Ex Pu
open Kv Vv

instance : Kv Ltr := ⟨fun l => .agg (Enc.enc l).toArray⟩

theorem findAsk {P : Program} {t : TypeId} [he : EqE P t Ltr] (w : World) (x : Ltr) : ∀ (es : List MapEntry) (ks : List Ltr) (i : Nat), es.map (·.key) = ks.map kv →
    (Instr.findAsking t (kv x) es i).run P w = .ok ((ks.findIdx? (· = x)).bind fun j => (es[j]?).map fun e => (i + j, e.val)) w
  | [], [], i, _ => rfl
  | [], _ :: _, _, h => by simp at h
  | _ :: _, [], _, h => by simp at h
  | e :: es, k :: ks, i, h => by
    simp only [List.map_cons, List.cons.injEq] at h
    obtain ⟨b, hb, hiff⟩ := he.eq 9990 x k w
    have hq : (Op.equal t (kv x) e.key).run P w = .ok b w := by rw [h.1]; exact hb
    simp only [Instr.findAsking, Sem.run_bind, hq, Result.andThen_ok]
    by_cases hk : k = x
    · have : b = true := hiff.2 hk.symm
      subst this
      simp [List.findIdx?_cons, hk, Sem.run_pure]
    · have hb' : b = false := by
        cases b with
        | false => rfl
        | true => exact absurd (hiff.1 rfl).symm hk
      subst hb'
      simp only [Bool.false_eq_true, if_false]
      rw [findAsk w x es ks (i + 1) h.2, List.findIdx?_cons]
      simp only [hk, decide_false]
      cases ks.findIdx? (· = x) with
      | none => rfl
      | some j => simp [Nat.add_assoc, Nat.add_comm 1 j]

theorem chkLtr (e : Bool) (w : World) (x : Ltr) (n : Nat) : (Instr.checkKey e (n + 2) 32 (kv x)).run Try.prog w = .ok () w := by
  have hu := TyC.und (P := Try.prog) (t := 32)
  have i1 : ∀ (a : Int), (Instr.checkKey e (n + 1) 3 (.int .i64 a)).run Try.prog w = .ok () w := fun a => by
    rw [Instr.checkKey]
    simp only [Sem.run_bind, run_underlying (TyC.und (P := Try.prog) (t := 3)), Result.andThen_ok, Sem.run_pure]
  have i2 : ∀ (s : ByteArray), (Instr.checkKey e (n + 1) 9 (.string s)).run Try.prog w = .ok () w := fun s => by
    rw [Instr.checkKey]
    simp only [Sem.run_bind, run_underlying (TyC.und (P := Try.prog) (t := 9)), Result.andThen_ok, Sem.run_pure]
  have hp1 : ∀ (xs : Array Value) (o : Nat) (v : Value), xs[o]? = some v → (part 3 xs o).run Try.prog w = .ok v w := fun xs o v hv => run_part1 rfl hv w
  have hp2 : ∀ (xs : Array Value) (o : Nat) (v : Value), xs[o]? = some v → (part 9 xs o).run Try.prog w = .ok v w := fun xs o v hv => run_part1 rfl hv w
  have n1 : ("From" : String) ≠ "_" := by decide
  have n2 : ("To" : String) ≠ "_" := by decide
  have n3 : ("Body" : String) ≠ "_" := by decide
  show (Instr.checkKey e (n + 1 + 1) 32 (.agg (Enc.enc x).toArray)).run Try.prog w = .ok () w
  rw [Instr.checkKey]
  simp only [Sem.run_bind, run_underlying hu, Result.andThen_ok]
  simp only [Array.forIn_toList.symm, List.forIn_cons, List.forIn_nil, n1, n2, n3, ne_eq, not_false_eq_true, if_true, Sem.run_bind, hp1 (Enc.enc x).toArray 0 (.int .i64 x.f) rfl, hp1 (Enc.enc x).toArray 1 (.int .i64 x.t) rfl, hp2 (Enc.enc x).toArray 2 (.string x.s) rfl, i1, i2, Result.andThen_ok, Sem.run_pure]
theorem bitsLtr (x : Ltr) (n : Nat) : Instr.sameBits (n + 1) (kv x) (kv x) = true := by
  show Instr.sameBits (n + 1) (.agg (Enc.enc x).toArray) (.agg (Enc.enc x).toArray) = true
  rw [Instr.sameBits]
  have hs : (x.s == x.s) = true := by show (x.s.data == x.s.data) = true; simp
  simp [Instr.sameBits, Enc.enc, hs]

instance : Key Try.prog 32 Ltr where
  chk := fun e w x => chkLtr e w x 9998
  fnd := fun w x es ks h => by
    rw [run_findKey_eq w (by kernel_rfl), findAsk w x es ks 0 h]
    simp
  bits := fun x => bitsLtr x 9999

/-- the tally tells how many there are of each -/
def Tal (c : List (Ltr × Int)) (l : List Ltr) : Prop := ∀ x, (getM c x).getD 0 = (l.count x : Int)
theorem Tal.nil : Tal [] [] := fun x => by simp [getM]
theorem Tal.add {c : List (Ltr × Int)} {l : List Ltr} (h : Tal c l) (x : Ltr) : Tal (putM c x ((getM c x).getD 0 + 1)) (l ++ [x]) := fun y => by
  rw [getM_putM, List.count_append]
  by_cases hy : y = x
  · subst hy; rw [if_pos rfl, Option.getD_some, h y]; simp
  · rw [if_neg hy, h y]
    simp [List.count_cons, show ¬ x = y from fun e => hy e.symm]
theorem Tal.sub {c : List (Ltr × Int)} {l : List Ltr} (h : Tal c l) {j : Nat} (hj : j < l.length) : Tal (putM c l[j] ((getM c l[j]).getD 0 - 1)) (l.eraseIdx j) := fun y => by
  have he : l = l.take j ++ l[j] :: l.drop (j + 1) := by rw [← List.drop_eq_getElem_cons hj, List.take_append_drop]
  have hc : ∀ z, l.count z = (l.eraseIdx j).count z + (if l[j] = z then 1 else 0) := fun z => by
    rw [List.eraseIdx_eq_take_drop_succ, List.count_append]
    have := congrArg (List.count z) he
    rw [List.count_append, List.count_cons] at this
    rw [this]
    by_cases hz : l[j] = z <;> simp [hz] <;> omega
  rw [getM_putM]
  by_cases hy : y = l[j]
  · subst hy
    rw [if_pos rfl, Option.getD_some, h _, hc _, if_pos rfl]; omega
  · rw [if_neg hy, h y, hc y, if_neg (fun e => hy e.symm)]; simp
theorem Tal.get {c : List (Ltr × Int)} {l : List Ltr} (h : Tal c l) (x : Ltr) (hl : l.length ≤ 400) : 0 ≤ (getM c x).getD 0 ∧ (getM c x).getD 0 ≤ 400 := by
  have := List.count_le_length (a := x) (l := l)
  rw [h x]; omega
theorem Tal.zero {c : List (Ltr × Int)} (h : Tal c []) (hn : (c.map Prod.fst).Nodup) {j : Nat} {p : Ltr × Int} (hp : c[j]? = some p) : p.2 = 0 := by
  have h1 := h p.1
  have h2 : getM c p.1 = some p.2 := by
    unfold getM
    have : c.find? (fun q => q.1 = p.1) = some p := by
      rw [List.find?_eq_some_iff_getElem]
      obtain ⟨hj, he⟩ := List.getElem?_eq_some_iff.1 hp
      refine ⟨by simp, j, hj, he, fun i hi => ?_⟩
      have := List.pairwise_iff_getElem.1 hn i j (by simp; omega) (by simpa using hj) hi
      simp only [List.getElem_map, he] at this
      simpa using this
    rw [this]; rfl
  rw [h2] at h1
  simpa using h1

theorem getZ (c : List (Ltr × Int)) (x : Ltr) : ((getM c x).map vv).getD (.int .i64 0) = .int .i64 ((getM c x).getD 0) := by cases getM c x <;> rfl
theorem getZ' (c : List (Ltr × Int)) (x : Ltr) : ((getM (addM c x (0 : Int)) x).map vv).getD (.int .i64 0) = .int .i64 ((getM c x).getD 0) := by
  have : getM (addM c x (0 : Int)) x = some ((getM c x).getD 0) := by
    unfold addM
    cases hi : c.findIdx? (fun p => p.1 = x) with
    | some i =>
      obtain ⟨v, h1, h2, h3⟩ := idx_some hi
      rw [if_pos h3, h2]; rfl
    | none =>
      obtain ⟨h1, h2⟩ := idx_none hi
      rw [if_neg h2, h1]
      unfold getM at h1 ⊢
      rw [List.find?_append]
      have h3 : c.find? (fun p => p.1 = x) = none := by
        cases h4 : c.find? (fun p => p.1 = x) with
        | none => rfl
        | some q => rw [h4] at h1; cases h1
      rw [h3]; simp
  rw [this]; rfl

end Go.Proofs.Ytidamnmfobblaaa
