/- The document's disk: its files stand by name (plain laws). -/
import Derived.Test.YtjneocpbpnbopaaDr0
set_option linter.unusedVariables false
set_option linter.unusedSimpArgs false
namespace Go.Proofs.Ytjneocpbpnbopaa
open Go

def LeB (a b : ByteArray) : Prop := bytesOf a ≤ bytesOf b
theorem LeB.trans {a b c : ByteArray} (h : LeB a b) (h2 : LeB b c) : LeB a c := List.le_trans h h2
theorem LeB.antisymm {a b : ByteArray} (h : LeB a b) (h2 : LeB b a) : a = b := by
  have := List.le_antisymm h h2
  rw [← strB_bytes a, ← strB_bytes b, this]
def ltB (a b : ByteArray) : Bool := Op.bytesLess a.toList b.toList
theorem bytesLess_is : ∀ (x y : List UInt8), Op.bytesLess x y = decide (x < y)
  | [], [] => by simp [Op.bytesLess]
  | _ :: _, [] => by simp [Op.bytesLess]
  | [], _ :: _ => by simp [Op.bytesLess]
  | a :: x, b :: y => by
    rw [Op.bytesLess, bytesLess_is x y, Bool.eq_iff_iff]
    simp [List.cons_lt_cons_iff]
theorem ltB_eq (a b : ByteArray) : ltB a b = decide (bytesOf a < bytesOf b) := by
  unfold ltB
  rw [byteArray_toList, byteArray_toList, bytesLess_is]
  rfl
theorem ltB_yes {a b : ByteArray} (h : ltB a b = true) : LeB a b := by
  rw [ltB_eq] at h
  exact List.le_of_lt (by simpa using h)
theorem ltB_no {a b : ByteArray} (h : ¬ ltB a b = true) : LeB b a := by
  rw [ltB_eq] at h
  exact List.not_lt.1 (by simpa using h)
theorem sortB_sorted (ls : List ByteArray) : (sortB ls).Pairwise LeB := by
  unfold sortB
  rw [List.pairwise_map]
  have := List.pairwise_mergeSort (le := fun x y : List UInt8 => decide (x ≤ y)) (fun a b c h1 h2 => by simpa using List.le_trans (by simpa using h1) (by simpa using h2)) (fun a b => by simpa using List.le_total a b) (ls.map bytesOf)
  exact this.imp fun h => by unfold LeB bytesOf strB; simpa using h
theorem sortB_is {l ls : List ByteArray} (h : l.Pairwise LeB) (hp : l.Perm ls) : sortB ls = l :=
  List.Perm.eq_of_pairwise (le := LeB) (fun a b _ _ h1 h2 => h1.antisymm h2) (sortB_sorted ls) h ((sortB_perm ls).trans hp.symm)

/-- put at its place by name -/
def insG {α : Type} (nm : α → ByteArray) : List α → α → List α
  | [], f => [f]
  | g :: l, f => if ltB (nm f) (nm g) = true then f :: g :: l else g :: insG nm l f
theorem insG_perm {α : Type} (nm : α → ByteArray) (l : List α) (f : α) : (insG nm l f).Perm (f :: l) := by
  induction l with
  | nil => exact .refl _
  | cons g l ih =>
    rw [insG]
    split
    · exact .refl _
    · exact (ih.cons g).trans (.swap f g l)
theorem insG_map {α β : Type} (na : α → ByteArray) (nb : β → ByteArray) (φ : α → β) (h : ∀ x, nb (φ x) = na x) (l : List α) (f : α) : (insG na l f).map φ = insG nb (l.map φ) (φ f) := by
  induction l with
  | nil => rfl
  | cons g l ih =>
    rw [insG, List.map_cons, insG, h, h]
    split
    · rfl
    · rw [List.map_cons, ih]
theorem insG_sorted {l : List ByteArray} (h : l.Pairwise LeB) (k : ByteArray) : (insG id l k).Pairwise LeB := by
  induction l with
  | nil => exact List.pairwise_singleton ..
  | cons g l ih =>
    rw [List.pairwise_cons] at h
    rw [insG]
    split
    · rename_i hk
      have hk := ltB_yes hk
      rw [List.pairwise_cons, List.pairwise_cons]
      refine ⟨fun x hx => ?_, h⟩
      rcases List.mem_cons.1 hx with rfl | hx
      · exact hk
      · exact hk.trans (h.1 x hx)
    · rename_i hk
      have hk := ltB_no hk
      rw [List.pairwise_cons]
      refine ⟨fun x hx => ?_, ih h.2⟩
      rcases List.mem_cons.1 ((insG_perm id l k).mem_iff.1 hx) with rfl | hx
      · exact hk
      · exact h.1 x hx
theorem insG_len {α : Type} (nm : α → ByteArray) (l : List α) (f : α) : (insG nm l f).length = l.length + 1 := (insG_perm nm l f).length_eq

/-- a disk's files by name -/
def refL (s : DS) : List (ByteArray × FileS) := (filesL s).map fun k => (k, fileOf s k)
theorem refL_nil (room arm : Int) (down : Bool) : refL ⟨room, down, arm, []⟩ = [] := by
  unfold refL filesL
  rw [show sortB (List.map Prod.fst ([] : List (ByteArray × FileS))) = [] from List.length_eq_zero_iff.1 (sortB_len [])]
  rfl
theorem refL_names (s : DS) : (refL s).map Prod.fst = filesL s := by
  unfold refL
  rw [List.map_map]
  exact List.map_id _
theorem refL_len (s : DS) : (refL s).length = s.fs.length := by
  unfold refL
  rw [List.length_map]
  have := (filesL_perm s).length_eq
  simpa using this
theorem refL_at {s : DS} {i : Nat} {k : ByteArray} {f : FileS} (h : (refL s)[i]? = some (k, f)) : f = fileOf s k ∧ (filesL s)[i]? = some k ∧ ∃ g, getM s.fs k = some g ∧ fileOf s k = g := by
  unfold refL at h
  rw [List.getElem?_map, Option.map_eq_some_iff] at h
  obtain ⟨q, hq, he⟩ := h
  injection he with h1 h2
  subst h1
  refine ⟨h2.symm, hq, ?_⟩
  obtain ⟨g, hg⟩ := getM_of_mem (files_mem.1 (List.mem_of_getElem? hq))
  exact ⟨g, hg, by unfold fileOf; rw [hg]; rfl⟩
theorem refL_has {s : DS} {k : ByteArray} {f : FileS} (h : getM s.fs k = some f) : ∃ i : Nat, (refL s)[i]? = some (k, f) := by
  have hk := files_mem.2 (List.mem_map_of_mem (f := Prod.fst) (getM_mem h))
  obtain ⟨i, hi⟩ := List.getElem?_of_mem hk
  refine ⟨i, ?_⟩
  unfold refL
  rw [List.getElem?_map, hi]
  show some (k, fileOf s k) = _
  unfold fileOf
  rw [h]; rfl
theorem fileOf_put (s : DS) (k q : ByteArray) (f : FileS) : fileOf (withFs s (putM s.fs k f)) q = if q = k then f else fileOf s q := by
  unfold fileOf withFs
  dsimp only
  rw [getM_putM]
  split <;> rfl
theorem fileOf_del (s : DS) (k q : ByteArray) (h : q ≠ k) : fileOf (withFs s (delM s.fs k)) q = fileOf s q := by
  unfold fileOf withFs
  dsimp only
  rw [getM_delM, if_neg h]
theorem filter_sorted {l : List ByteArray} (h : l.Pairwise LeB) (p : ByteArray → Bool) : (l.filter p).Pairwise LeB := h.filter p
theorem files_del (s : DS) (k : ByteArray) : filesL (withFs s (delM s.fs k)) = (filesL s).filter fun q => decide (q ≠ k) := by
  refine sortB_is (filter_sorted (sortB_sorted _) _) ?_
  show ((filesL s).filter _).Perm ((delM s.fs k).map Prod.fst)
  have h1 := (filesL_perm s).filter fun q => decide (q ≠ k)
  refine h1.trans ?_
  unfold delM
  rw [List.filter_map]
  exact .refl _
theorem perm_front {l : List ByteArray} (hn : l.Nodup) {k : ByteArray} (h : k ∈ l) : l.Perm (k :: l.filter fun q => decide (q ≠ k)) := by
  induction l with
  | nil => cases h
  | cons g l ih =>
    rw [List.nodup_cons] at hn
    rw [List.filter_cons]
    by_cases hg : g = k
    · subst hg
      rw [if_neg (by simp), List.filter_eq_self.2 fun q hq => by
        have : q ≠ g := fun e => hn.1 (e ▸ hq)
        simp [this]]
    · rw [if_pos (by simp [hg])]
      have hk : k ∈ l := by
        rcases List.mem_cons.1 h with h | h
        · exact absurd h.symm hg
        · exact h
      exact ((ih hn.2 hk).cons g).trans (.swap k g _)
theorem perm_put {β : Type} {l : List (ByteArray × β)} (hn : (l.map Prod.fst).Nodup) (k : ByteArray) (y : β) : ((putM l k y).map Prod.fst).Perm (k :: (l.map Prod.fst).filter fun q => decide (q ≠ k)) := by
  unfold putM
  by_cases hk : k ∈ l.map Prod.fst
  · rw [if_pos hk, List.map_map]
    have e : l.map (Prod.fst ∘ fun p => if p.1 = k then (k, y) else p) = l.map Prod.fst := List.map_congr_left fun p hp => by
      show (if p.1 = k then (k, y) else p).1 = p.1
      split
      · rename_i h; exact h.symm
      · rfl
    rw [e]
    exact perm_front hn hk
  · rw [if_neg hk, List.map_append]
    have e : (l.map Prod.fst).filter (fun q => decide (q ≠ k)) = l.map Prod.fst := List.filter_eq_self.2 fun q hq => by
      have : q ≠ k := fun e => hk (e ▸ hq)
      simp [this]
    rw [e]
    exact List.perm_append_comm
theorem files_put {s : DS} (hn : (s.fs.map Prod.fst).Nodup) (k : ByteArray) (f : FileS) : filesL (withFs s (putM s.fs k f)) = insG id ((filesL s).filter fun q => decide (q ≠ k)) k := by
  refine sortB_is (insG_sorted (filter_sorted (sortB_sorted _) _) _) ?_
  refine (insG_perm id _ _).trans (List.Perm.trans (.cons k ((filesL_perm s).filter _)) (perm_put hn k f).symm)
theorem refL_del (s : DS) (k : ByteArray) : refL (withFs s (delM s.fs k)) = (refL s).filter fun e => decide (e.1 ≠ k) := by
  unfold refL
  rw [files_del, List.filter_map]
  refine List.map_congr_left fun q hq => ?_
  have : q ≠ k := by simpa using (List.mem_filter.1 hq).2
  rw [fileOf_del s k q this]
theorem refL_put {s : DS} (hn : (s.fs.map Prod.fst).Nodup) (k : ByteArray) (f : FileS) : refL (withFs s (putM s.fs k f)) = insG Prod.fst ((refL s).filter fun e => decide (e.1 ≠ k)) (k, f) := by
  unfold refL
  rw [files_put hn, List.filter_map, insG_map id Prod.fst (fun q => (q, fileOf (withFs s (putM s.fs k f)) q)) (fun _ => rfl)]
  show insG Prod.fst _ (k, fileOf _ k) = _
  rw [fileOf_put, if_pos rfl]
  congr 1
  refine List.map_congr_left fun q hq => ?_
  have : q ≠ k := by simpa using (List.mem_filter.1 hq).2
  rw [fileOf_put, if_neg this]
theorem refL_set {s : DS} (h : DInv s) {i : Nat} {k : ByteArray} {g : FileS} (hi : (refL s)[i]? = some (k, g)) (f : FileS) : refL (withFs s (putM s.fs k f)) = (refL s).set i (k, f) := by
  obtain ⟨_, hk, g', hg, _⟩ := refL_at hi
  have hm := List.mem_map_of_mem (f := Prod.fst) (getM_mem hg)
  have hnd := files_nodup h
  have hf : filesL (withFs s (putM s.fs k f)) = filesL s := by
    show sortB ((putM s.fs k f).map Prod.fst) = sortB (s.fs.map Prod.fst)
    rw [putM_names hm]
  apply List.ext_getElem?
  intro j
  rw [List.getElem?_set]
  unfold refL
  rw [hf, List.getElem?_map, List.length_map, List.getElem?_map]
  by_cases hj : i = j
  · subst hj
    rw [if_pos rfl, if_pos (List.getElem?_eq_some_iff.1 hk).1, hk]
    simp only [Option.map_some]
    rw [fileOf_put, if_pos rfl]
  · rw [if_neg hj]
    cases hq : (filesL s)[j]? with
    | none => rfl
    | some q =>
      simp only [Option.map_some]
      have : q ≠ k := fun e => by
        subst e
        obtain ⟨h1, h2⟩ := List.getElem?_eq_some_iff.1 hk
        obtain ⟨h3, h4⟩ := List.getElem?_eq_some_iff.1 hq
        exact hj ((List.getElem_inj hnd).1 (h2.trans h4.symm))
      rw [fileOf_put, if_neg this]
theorem refL_with (s : DS) (fs : List (ByteArray × FileS)) : refL (failS (withFs s fs)) = refL (withFs s fs) := rfl
/-- how a crash leaves them -/
theorem crashL_at : ∀ (ks : List ByteArray) (ls : List LeftS) (fs : List (ByteArray × FileS)) (i : Nat) (k : ByteArray) (f : FileS), ks.Nodup → ks[i]? = some k → getM fs k = some f → getM (crashL ks ls fs) k = some (crashF f ((ls[i]?).getD ⟨0, false⟩))
  | [], _, _, _, _, _, _, h, _ => by simp at h
  | q :: ks, ls, fs, 0, k, f, hn, hk, hf => by
    rw [List.nodup_cons] at hn
    simp only [List.getElem?_cons_zero, Option.some.injEq] at hk
    subst hk
    rw [crashL, crashL_other ks ls.tail _ q hn.1, getM_putM, if_pos rfl, hf]
    cases ls <;> rfl
  | q :: ks, ls, fs, i + 1, k, f, hn, hk, hf => by
    rw [List.nodup_cons] at hn
    rw [List.getElem?_cons_succ] at hk
    have hne : k ≠ q := fun e => hn.1 (e ▸ List.mem_of_getElem? hk)
    rw [crashL, crashL_at ks ls.tail _ i k f hn.2 hk (by rw [getM_putM, if_neg hne]; exact hf)]
    cases ls <;> simp
theorem refL_crash {s : DS} (h : DInv s) (ls : List LeftS) : refL (crashS s ls) = (refL s).mapIdx fun i e => (e.1, crashF e.2 ((ls[i]?).getD ⟨0, false⟩)) := by
  apply List.ext_getElem?
  intro i
  rw [List.getElem?_mapIdx]
  unfold refL
  rw [crash_files h, List.getElem?_map, List.getElem?_map]
  cases hk : (filesL s)[i]? with
  | none => rfl
  | some k =>
    simp only [Option.map_some]
    obtain ⟨f, hf⟩ := getM_of_mem (files_mem.1 (List.mem_of_getElem? hk))
    have := crashL_at (filesL s) ls s.fs i k f (files_nodup h) hk hf
    have e1 : fileOf (crashS s ls) k = crashF f ((ls[i]?).getD ⟨0, false⟩) := by
      unfold fileOf
      show (getM (crashL (filesL s) ls s.fs) k).getD _ = _
      rw [this]; rfl
    have e2 : fileOf s k = f := by unfold fileOf; rw [hf]; rfl
    rw [e1, e2]
end Go.Proofs.Ytjneocpbpnbopaa
