/-
  From a law's row to its walk: arguments read as data; what stands behind the call.
-/
import Derived.Test.YtnmfpgfgjjmfhaaSq
import Derived.ProofKit
import Derived.OpenShut
import Derived.Deep.Slices
set_option linter.unusedVariables false
set_option linter.unusedSimpArgs false
namespace Go.Proofs.Ytnmfpgfgjjmfhaa
open Go Go.ChangeShapes Go.WideShapes Go.RowKit

/-- what a type's cells read as -/
class Rd (P : Program) (t : TypeId) (α : Type) [Enc α] (ok : outParam (World → α → Prop)) : Prop where
  rd : ∀ {H : Type} {enc : TypeId × Value → H} {w : World} {base : Nat} {spare : Nat → Bool} {held : Bool} {n : Nat} {cs : List Value} {x : DataW H × List MemPlace},
    DataW.trod enc P w base spare held n t cs = some x → ∃ y : α, cs = Enc.enc y ∧ ok w y

theorem mapM_some_at {α β : Type} {f : α → Option β} : ∀ {l : List α} {r : List β}, l.mapM f = some r → ∀ (i : Nat) (a : α), l[i]? = some a → ∃ b : β, f a = some b ∧ r[i]? = some b
  | [], r, h, i, a, ha => by simp at ha
  | y :: l, r, h, i, a, ha => by
    rw [List.mapM_cons] at h
    cases hy : f y with
    | none => simp [hy] at h
    | some b =>
      cases hl : l.mapM f with
      | none => simp [hy, hl] at h
      | some bs =>
        simp [hy, hl] at h
        subst h
        cases i with
        | zero => simp at ha; subst ha; exact ⟨b, hy, rfl⟩
        | succ i => exact mapM_some_at hl i a (by simpa using ha)

theorem choose_list {α : Type} {p : Nat → α → Prop} : ∀ {len : Nat}, (∀ i, i < len → ∃ y, p i y) → ∃ ls : List α, ls.length = len ∧ ∀ i y, ls[i]? = some y → p i y
  | 0, _ => ⟨[], rfl, by simp⟩
  | len + 1, hy => by
    obtain ⟨ls, h1, h2⟩ := choose_list (fun i hi => hy i (by omega) : ∀ i, i < len → ∃ y, p i y)
    obtain ⟨y, hy1⟩ := hy len (by omega)
    refine ⟨ls ++ [y], by simp [h1], fun i z hz => ?_⟩
    rw [List.getElem?_append] at hz
    split at hz
    · exact h2 i z hz
    · have : i = len := by
        have := List.getElem?_eq_some_iff.1 hz
        obtain ⟨h3, _⟩ := this
        simp at h3; omega
      subst this
      simp [h1] at hz
      subst hz
      exact hy1

/-- a slice among cells, read -/
theorem rd_slice_in {P : Program} {t e : TypeId} {α : Type} [Enc α] {ok : World → α → Prop} (ht : P.underlying t = some (.slice e)) (hc : P.cellsOf e = Enc.sz α) (h0 : 0 < Enc.sz α) [hr : Rd P e α ok]
    {H : Type} {enc : TypeId × Value → H} {w : World} {base n : Nat} {spare : Nat → Bool} {held : Bool} {vs : List Value} {xx : DataW H × List MemPlace}
    (hn : DataW.trod enc P w base spare held n t vs = some xx) :
    ∃ (a : Option Addr) (cap : Nat) (ls : List α), vs = [.slice a ls.length cap] ∧ Vw w a ls ∧ (∀ y ∈ ls, ok w y) ∧ ls.length ≤ maxLen ∧ ls.length ≤ cap ∧ cap ≤ maxLen := by
  obtain ⟨dd, pp⟩ := xx
  rcases Go.Deep.open_slice ht hn with ⟨h1, _⟩ | ⟨a', len, cap, m, n', D, Pl, h1, _, hl, hm, hmm, _, hx⟩
  · subst h1
    exact ⟨none, 0, [], rfl, ⟨by simp, .inl rfl⟩, by simp, by simp, by simp, by simp⟩
  · subst h1
    have hlm : len ≤ m := by rw [hmm]; split <;> omega
    have hy : ∀ i, i < len → ∃ y : α, w.cells? base (a'.add (i * P.cellsOf e)) (P.cellsOf e) = some (Enc.enc y) ∧ ok w y := fun i hi => by
      obtain ⟨cs, h2, h3⟩ := hx i (by omega)
      obtain ⟨y, rfl, hy⟩ := hr.rd h3
      exact ⟨y, h2, hy⟩
    have hls : ∃ ls : List α, ls.length = len ∧ ∀ i y, ls[i]? = some y → w.cells? base (a'.add (i * P.cellsOf e)) (P.cellsOf e) = some (Enc.enc y) ∧ ok w y := choose_list hy
    obtain ⟨ls, rfl, hls⟩ := hls
    refine ⟨some a', cap, ls, rfl, ⟨map_enc_len ls, ?_⟩, fun y hy => ?_, by omega, hl, hm⟩
    · by_cases he : ls = []
      · exact .inl (by simp [he])
      · right
        obtain ⟨b, o, sp⟩ := a'
        have hcell : ∀ i x, (ls.map (Enc.enc (α := α)))[i]? = some x → ∀ j v, x[j]? = some v → w.cell? ((Addr.add ⟨b, o, sp⟩ (i * P.cellsOf e)).add j) = some v := by
          intro i x hx j v hv
          rw [List.getElem?_map, Option.map_eq_some_iff] at hx
          obtain ⟨y, hy, rfl⟩ := hx
          obtain ⟨hc1, _⟩ := hls i y hy
          unfold World.cells? at hc1
          split at hc1
          · have hj : j < P.cellsOf e := by
              rw [hc, ← Enc.len y]
              exact (List.getElem?_eq_some_iff.1 hv).1
            obtain ⟨u, hu1, hu2⟩ := mapM_some_at hc1 j j (by rw [List.getElem?_range hj])
            rw [hv] at hu2
            injection hu2 with hu2
            subst hu2
            exact hu1
          · cases hc1
        have hsp : sp = none := by
          cases ls with
          | nil => exact absurd rfl he
          | cons y ls =>
            have hlen := Enc.len y
            have := hcell 0 (Enc.enc y) (by simp) 0 ((Enc.enc y)[0]'(by omega)) (by simp)
            simpa [Addr.add] using World.cell?_spot this
        subst hsp
        refine ⟨b, o, rfl, fun i x hx j v hv => ?_⟩
        have := hcell i x hx j v hv
        rw [add_plain, add_plain, hc] at this
        exact this
    · obtain ⟨i, hi⟩ := List.getElem?_of_mem hy
      exact (hls i y hi).2

/-- a slice's argument, read -/
theorem rd_slice {P : Program} {t e : TypeId} {α : Type} [Enc α] {ok : World → α → Prop} (ht : P.underlying t = some (.slice e)) (hc : P.cellsOf e = Enc.sz α) (h0 : 0 < Enc.sz α) [hr : Rd P e α ok]
    {H : Type} {enc : TypeId × Value → H} {w : World} {base b0 : Nat} {spare : Nat → Bool} {held : Bool} {v : Value} {d : DataW H} {ps : List MemPlace} {r : Reach}
    (hval : Value.okWide P w r b0 t v) (h : DataW.Trod enc P w base spare held t v d ps) :
    ∃ (a : Option Addr) (cap : Nat) (ls : List α), v = .slice a ls.length cap ∧ Vw w a ls ∧ (∀ y ∈ ls, ok w y) ∧ ls.length ≤ maxLen ∧ ls.length ≤ cap ∧ cap ≤ maxLen := by
  obtain ⟨a, len, cap, rfl⟩ := okWide_slice ht hval
  obtain ⟨n, hn⟩ := h
  obtain ⟨a', cap', ls, h1, h2⟩ := rd_slice_in (α := α) ht hc h0 hn
  simp [Value.cells] at h1
  obtain ⟨rfl, rfl, rfl⟩ := h1
  exact ⟨a, cap, ls, rfl, h2⟩

theorem rd_int {P : Program} {t : TypeId} {k : IntKind} (ht : P.underlying t = some (.int k)) {H : Type} {enc : TypeId × Value → H} {w : World} {base : Nat} {spare : Nat → Bool} {held : Bool} {n : Nat} {cs : List Value} {x : DataW H × List MemPlace}
    (h : DataW.trod enc P w base spare held n t cs = some x) : ∃ i, cs = [.int k i] ∧ (Lit.int k i).wf = true :=
  let ⟨i, h1, _, h2⟩ := DataW.trod_int ht h
  ⟨i, h1, h2⟩

theorem struct_at {P : Program} {t : TypeId} {fs : Array Field} {k : Nat} (ht : P.underlying t = some (.struct fs)) (hk : P.cellsOf t = k) {H : Type} {enc : TypeId × Value → H} {w : World} {base : Nat} {spare : Nat → Bool} {held : Bool} {n : Nat} {cs : List Value} {x : DataW H × List MemPlace}
    (h : DataW.trod enc P w base spare held n t cs = some x) : ∃ m, cs.length = k ∧ ∀ (i : Nat) (f : Field), fs[i]? = some f → ∀ c, P.cellsOf f.type = c → ∃ y, DataW.trod enc P w base spare held m f.type ((cs.drop f.offset).take c) = some y := by
  obtain ⟨xs, m, _, _, hl, hxs, hf⟩ := DataW.trod_struct ht h
  refine ⟨m, hl.trans hk, fun i f hi c hc => ?_⟩
  have h1 := hf i f hi
  have hlt : i < xs.length := by rw [hxs]; exact (Array.getElem?_eq_some_iff.1 hi).1
  rw [List.getElem?_eq_getElem hlt, hc] at h1
  exact ⟨_, h1⟩

/-- a struct's argument, read -/
theorem rd_agg {P : Program} {t : TypeId} {fs : Array Field} {α : Type} [Enc α] {ok : World → α → Prop} (ht : P.underlying t = some (.struct fs)) [hr : Rd P t α ok]
    {H : Type} {enc : TypeId × Value → H} {w : World} {base b0 : Nat} {spare : Nat → Bool} {held : Bool} {v : Value} {d : DataW H} {ps : List MemPlace} {r : Reach}
    (hval : Value.okWide P w r b0 t v) (h : DataW.Trod enc P w base spare held t v d ps) : ∃ y : α, v = .agg (Enc.enc y).toArray ∧ ok w y := by
  obtain ⟨cs, rfl, _⟩ := okWide_struct ht hval
  obtain ⟨n, hn⟩ := h
  obtain ⟨y, h1, h2⟩ := hr.rd hn
  refine ⟨y, ?_, h2⟩
  rw [← h1]
  simp [Value.cells]

theorem list1 {α : Type} {l : List α} (h : l.length = 1) : ∃ a, l = [a] := by
  match l, h with
  | [a], _ => exact ⟨a, rfl⟩
theorem list2 {α : Type} {l : List α} (h : l.length = 2) : ∃ a b, l = [a, b] := by
  match l, h with
  | [a, b], _ => exact ⟨a, b, rfl⟩
theorem list3 {α : Type} {l : List α} (h : l.length = 3) : ∃ a b c, l = [a, b, c] := by
  match l, h with
  | [a, b, c], _ => exact ⟨a, b, c, rfl⟩
theorem list4 {α : Type} {l : List α} (h : l.length = 4) : ∃ a b c d, l = [a, b, c, d] := by
  match l, h with
  | [a, b, c, d], _ => exact ⟨a, b, c, d, rfl⟩
theorem list5 {α : Type} {l : List α} (h : l.length = 5) : ∃ a b c d e, l = [a, b, c, d, e] := by
  match l, h with
  | [a, b, c, d, e], _ => exact ⟨a, b, c, d, e, rfl⟩

/-- what a law hands back: true; nothing that was there has turned -/
def yes (W : World) : Value → List HP → Prop := fun v M => v = .bool true ∧ M = [Old W]

theorem sat_old (W : World) : Sat ([Old W] ++ []) W := ⟨fun A h => by simp at h; subst h; infer_instance, fun b => 0, fun i A h => by
  cases i with
  | zero => simp at h; subst h; exact ⟨Kept0.refl W, fun b hb => ⟨rfl, rfl⟩⟩
  | succ i => simp at h⟩

theorem below_of_old {W W' : World} {S : Nat → Prop} (h : Old W W' S) : Below W.heap.size W W' := by
  obtain ⟨hk, hb⟩ := h
  refine ⟨hk.os, hk.tape, hk.output, ?_, fun k hk => (hb k hk).2⟩
  by_cases h0 : W.heap.size = 0
  · omega
  · have h1 := (hb (W.heap.size - 1) (by omega)).2
    have h2 : W.heap[W.heap.size - 1]? = some (W.heap[W.heap.size - 1]'(by omega)) := Array.getElem?_eq_getElem _
    rw [h2] at h1
    have := lt_of_heap h1
    omega

theorem trodAll_below {P : Program} (hl : laidOutB P = true) {H : Type} {enc : TypeId × Value → H} {W W' : World} (hb : Below W.heap.size W W') :
    ∀ {ts : List TypeId} {vs : List Value} {ds : List (DataW H)} {p : List MemPlace}, (∀ t ∈ ts, P.readableRec t = true ∧ t < P.types.size) → DataW.TrodAll enc P W 0 (fun _ => true) true ts vs ds p → (∀ x ∈ p, x.block < W.heap.size) →
      DataW.TrodAll enc P W' 0 (fun b => decide (b < W.heap.size)) true ts vs ds p ∧ DataW.TrodAll enc P W' 0 (fun _ => true) true ts vs ds p
  | [], _, _, _, _, h, _ => by
    obtain ⟨rfl, rfl, rfl⟩ := trodAll_nil h
    exact ⟨rfl, rfl⟩
  | t :: ts, _, _, _, ht, h, hp => by
    obtain ⟨v, vs, d, ds, p, q, rfl, rfl, rfl, h1, h2⟩ := trodAll_cons h
    obtain ⟨i1, i2⟩ := trodAll_below hl hb (fun t h => ht t (List.mem_cons_of_mem _ h)) h2 (fun x hx => hp x (List.mem_append_right _ hx))
    obtain ⟨k1, k2⟩ := ht t (List.mem_cons_self ..)
    have hlt : ∀ x ∈ p, x.block < W.heap.size := fun x hx => hp x (List.mem_append_left _ hx)
    exact ⟨⟨p, q, Below.trod hl k1 k2 h1 hb hlt, i1, rfl⟩, ⟨p, q, WideElems.Trod_stays hl k1 k2 h1 (fun x hx => hb.same (hlt x hx)) (fun _ _ => rfl), i2, rfl⟩⟩

theorem frozen_below {W W' : World} (hb : Below W.heap.size W W') (a : Addr) (ha : a.block < W.heap.size) : W'.frozen? a = W.frozen? a := by
  unfold World.frozen?
  rw [hb.block a.block ha]

theorem trodAll_len {P : Program} {H : Type} {enc : TypeId × Value → H} {W : World} {b : Nat} {sp : Nat → Bool} {hd : Bool} : ∀ {ts : List TypeId} {vs : List Value} {ds : List (DataW H)} {p : List MemPlace}, DataW.TrodAll enc P W b sp hd ts vs ds p → ds.length = ts.length
  | [], _, _, _, h => by
    obtain ⟨rfl, rfl, rfl⟩ := trodAll_nil h
    rfl
  | t :: ts, _, _, _, h => by
    obtain ⟨v, vs, d, ds, p, q, rfl, rfl, rfl, h1, h2⟩ := trodAll_cons h
    simp [trodAll_len h2]

theorem contract_of {P : Program} {f : FuncId} {fn : Func} {s : ChangeSpec} {apart fresh : Bool} {W : World} {args : Array Value} {H : Type} {enc : TypeId × Value → H} {ds gs : List (DataW H)} {before : List MemPlace} {tb : TypeId}
    (hl : laidOutB P = true) (hp : (fn.params.toList.all fun t => P.readableRec t && decide (t < P.types.size)) = true) (hvars : s.vars = []) (hr : fn.resultTypes = #[tb]) (htb : P.underlying tb = some .bool)
    (hs : ∀ ds : List (DataW H), ds.length = fn.params.toList.length → (s.fn H ds).results = [.lit (.bool true)] ∧ (s.fn H ds).args = ds ∧ (s.fn H ds).vars = [])
    (hW : DataW.Whole enc P fn.params.toList s.vars apart W args.toList ds gs before)
    (walk : Tr P f args.toList [Old W] (yes W)) :
    Calls P f args W fun e W' => ∃ v, e = .returned v ∧ s.post enc P fn apart fresh false false W args v W' := by
  have hlt : ∀ p ∈ before, p.block < W.heap.size := fun p hp => by simpa using hW.lt p hp
  have hW0 := hW
  obtain ⟨p, q, hA, hV, rfl, hfz, hnd⟩ := hW
  rw [hvars] at hV
  obtain ⟨rfl, rfl⟩ := trodVars_none hV
  have hc := walk [] W (sat_old W)
  rw [Array.toArray_toList] at hc
  refine hc.mono fun e W' ⟨v, M, he, ⟨hv, hM⟩, hsat⟩ => ⟨v, he, ?_⟩
  subst hv hM
  obtain ⟨S, hold⟩ := hsat.at .z
  have hb := below_of_old hold
  have hps : ∀ t ∈ fn.params.toList, P.readableRec t = true ∧ t < P.types.size := fun t ht => by
    have := List.all_eq_true.1 hp t ht
    simpa using this
  obtain ⟨r1, r2⟩ := trodAll_below hl hb hps hA (fun x hx => hlt x (by simp [hx]))
  have hlen : ds.length = fn.params.toList.length := by
    exact trodAll_len hA
  obtain ⟨s1, s2, s3⟩ := hs (ds ++ []) (by simpa using hlen)
  refine ⟨ds, [], p ++ [], [], p, [], hW0, ?_, ?_, ?_, ?_, fun h => by cases h⟩
  · rw [s1, hr]
    exact trodAll_cons_mk (shut_bool htb _) rfl
  · rw [s2, List.append_nil]
    exact r1
  · rw [s3, hvars]
    exact rfl
  · exact hb.frame _

end Go.Proofs.Ytnmfpgfgjjmfhaa
