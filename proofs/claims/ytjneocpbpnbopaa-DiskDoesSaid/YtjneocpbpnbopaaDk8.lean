/- Disks: what each act leaves. -/
import Derived.Test.YtjneocpbpnbopaaDk7
set_option linter.unusedVariables false
set_option linter.unusedSimpArgs false
namespace Go.Proofs.Ytjneocpbpnbopaa
open Go

structure DAct where
  k : Int
  a : ByteArray
  t : ByteArray
  bA : Option Addr
  bn : Nat
  bc : Nat
  n : Int
  lA : Option Addr
  ln : Nat
  lc : Nat
instance : Enc DAct := ⟨fun x => [.int .i64 x.k, .string x.a, .string x.t, .slice x.bA x.bn x.bc, .int .i64 x.n, .slice x.lA x.ln x.lc], 6, fun _ => rfl, by decide, fun x u hu => by simp at hu; rcases hu with rfl | rfl | rfl | rfl | rfl | rfl <;> rfl⟩

def realN (s : DS) (x : DAct) (b : List UInt8) (l : List LeftS) : Int × DS :=
  if x.k = 0 then appN s x.a b else if x.k = 1 then syncN s x.a else if x.k = 2 then cutN s x.a x.n else if x.k = 3 then moveN s x.a x.t else if x.k = 4 then dropN s x.a
  else if x.k = 5 then (0, ⟨s.room, s.down, armN x.n, s.fs⟩) else if x.k = 6 then (0, crashS s l) else (0, s)

theorem getM_cons {β : Type} (e : ByteArray × β) (l : List (ByteArray × β)) (k : ByteArray) : getM (e :: l) k = if e.1 = k then some e.2 else getM l k := by
  unfold getM
  rw [List.find?_cons]
  by_cases h : e.1 = k <;> simp [h]
theorem getM_notin {β : Type} {l : List (ByteArray × β)} {k : ByteArray} (h : k ∉ l.map Prod.fst) : getM l k = none := by
  unfold getM
  rw [Option.map_eq_none_iff, List.find?_eq_none]
  intro e he hk
  exact h (List.mem_map.2 ⟨e, he, by simpa using hk⟩)
def lenM (fs : List (ByteArray × FileS)) (k : ByteArray) : Nat := ((getM fs k).map fun f => f.b.length).getD 0
theorem used_map {fs : List (ByteArray × FileS)} {k : ByteArray} (f : FileS) (h : (fs.map Prod.fst).Nodup) (hk : k ∈ fs.map Prod.fst) : usedN (fs.map fun p => if p.1 = k then (k, f) else p) + lenM fs k = usedN fs + f.b.length := by
  induction fs with
  | nil => simp at hk
  | cons e fs ih =>
    rw [List.map_cons, List.nodup_cons] at h
    unfold usedN lenM at *
    simp only [List.map_cons, List.sum_cons, getM_cons]
    by_cases he : e.1 = k
    · have hmap : fs.map (fun p => if p.1 = k then (k, f) else p) = fs := by
        refine (List.map_congr_left fun p hp => ?_).trans (List.map_id _)
        rw [if_neg (fun e2 => h.1 (by rw [he, ← e2]; exact List.mem_map_of_mem hp))]; rfl
      rw [hmap, if_pos he, if_pos he]
      simp; omega
    · have hk2 : k ∈ fs.map Prod.fst := by
        rcases List.mem_cons.1 hk with hk | hk
        · exact absurd hk.symm he
        · exact hk
      have := ih h.2 hk2
      rw [if_neg he, if_neg he]
      simp only [List.map_map] at this ⊢
      omega
theorem used_put {fs : List (ByteArray × FileS)} (k : ByteArray) (f : FileS) (h : (fs.map Prod.fst).Nodup) : usedN (putM fs k f) + lenM fs k = usedN fs + f.b.length := by
  unfold putM
  by_cases hk : k ∈ fs.map Prod.fst
  · rw [if_pos hk]; exact used_map f h hk
  · rw [if_neg hk]
    have : lenM fs k = 0 := by unfold lenM; rw [getM_notin hk]; rfl
    rw [this]
    unfold usedN
    rw [List.map_append, List.sum_append]
    simp
theorem used_del {fs : List (ByteArray × FileS)} (k : ByteArray) (h : (fs.map Prod.fst).Nodup) : usedN (delM fs k) + lenM fs k = usedN fs := by
  induction fs with
  | nil => rfl
  | cons e fs ih =>
    rw [List.map_cons, List.nodup_cons] at h
    have := ih h.2
    unfold usedN lenM delM at *
    rw [getM_cons, List.filter_cons]
    by_cases he : e.1 = k
    · have hg : getM fs k = none := getM_notin (by rw [← he]; exact h.1)
      rw [hg] at this
      simp only [he, ne_eq, not_true_eq_false, decide_false, if_true]
      simp at this ⊢
      omega
    · simp only [ne_eq] at this
      simp only [he, ne_eq, not_false_eq_true, decide_true, if_true, if_false, List.map_cons, List.sum_cons]
      omega
theorem putM_len {β : Type} {fs : List (ByteArray × β)} {k : ByteArray} (y : β) : (putM fs k y).length = if getM fs k = none then fs.length + 1 else fs.length := by
  unfold putM
  by_cases hk : k ∈ fs.map Prod.fst
  · obtain ⟨z, hz⟩ := getM_of_mem hk
    rw [if_pos hk, hz]; simp
  · rw [if_neg hk, getM_notin hk]; simp
theorem delM_len {β : Type} (fs : List (ByteArray × β)) (k : ByteArray) : (delM fs k).length ≤ fs.length := List.length_filter_le ..
theorem delM_len_lt {β : Type} {fs : List (ByteArray × β)} {k : ByteArray} {y : β} (h : getM fs k = some y) : (delM fs k).length < fs.length := by
  have := getM_mem h
  unfold delM
  refine Nat.lt_of_not_le fun hle => ?_
  have h2 := List.filter_eq_self.1 (List.filter_sublist.eq_of_length_le hle) _ this
  simp at h2
theorem delM_mem {β : Type} {fs : List (ByteArray × β)} {k : ByteArray} {e : ByteArray × β} (h : e ∈ delM fs k) : e ∈ fs := (List.mem_filter.1 h).1

/-! what a file is -/
theorem fileOf_ok {s : DS} (h : DInv s) (k : ByteArray) : (0 ≤ (fileOf s k).s ∧ (fileOf s k).s ≤ (fileOf s k).b.length) ∧ (fileOf s k).b.length = lenM s.fs k := by
  unfold fileOf lenM
  cases hg : getM s.fs k with
  | none => simp
  | some f => exact ⟨h.sure _ (getM_mem hg), rfl⟩
theorem failS_inv {s : DS} (h : DInv s) : DInv (failS s) := by
  have := h.arm
  refine ⟨h.room, h.used, h.many, h.nd, h.sure, ?_, h.may⟩
  unfold failS
  dsimp only
  split <;> omega
theorem put_inv {s : DS} (h : DInv s) (k : ByteArray) (f : FileS) (h0 : 0 ≤ f.s ∧ f.s ≤ f.b.length) (h1 : (usedN s.fs : Int) - lenM s.fs k + f.b.length ≤ s.room) (h2 : getM s.fs k = none → s.fs.length < 64) (h3 : mayB k = true) : DInv (withFs s (putM s.fs k f)) := by
  have h4 := used_put k f h.nd
  refine ⟨h.room, ?_, ?_, putM_nodup h.nd k f, putM_all h.sure h0, h.arm, putM_all h.may h3⟩
  · show (usedN (putM s.fs k f) : Int) ≤ s.room
    omega
  · show (putM s.fs k f).length ≤ 64
    rw [putM_len]
    have := h.many
    split
    · rename_i hg; have := h2 hg; omega
    · exact this
theorem del_inv {s : DS} (h : DInv s) (k : ByteArray) : DInv (withFs s (delM s.fs k)) := by
  have h4 := used_del k h.nd
  have h5 := h.used
  have h6 := delM_len s.fs k
  have h7 := h.many
  refine ⟨h.room, ?_, ?_, delM_nodup h.nd k, fun e he => h.sure e (delM_mem he), h.arm, fun e he => h.may e (delM_mem he)⟩
  · show (usedN (delM s.fs k) : Int) ≤ s.room
    omega
  · show (delM s.fs k).length ≤ 64
    omega
theorem ready_may {s : DS} {k : ByteArray} {ks : List ByteArray} (h : ¬ readyE s ks ≠ 0) (hk : k ∈ ks) : mayB k = true := by
  unfold readyE at h
  split at h
  · exact absurd (by decide) h
  · split at h
    · exact absurd (by decide) h
    · rename_i h1
      unfold badN at h1
      cases hm : mayB k with
      | true => rfl
      | false => exact absurd (List.any_eq_true.2 ⟨k, hk, by rw [hm]; rfl⟩) h1
theorem known_ready {s : DS} {k : ByteArray} {ks : List ByteArray} (h : ¬ knownE s ks k ≠ 0) : (¬ readyE s ks ≠ 0) ∧ ∃ f, getM s.fs k = some f := by
  unfold knownE at h
  by_cases hr : readyE s ks ≠ 0
  · rw [if_pos hr] at h; exact absurd hr h
  · rw [if_neg hr] at h
    refine ⟨hr, ?_⟩
    cases hg : getM s.fs k with
    | none => rw [if_pos hg] at h; exact absurd (by decide) h
    | some f => exact ⟨f, rfl⟩

theorem app_inv {s : DS} (h : DInv s) (k : ByteArray) (b : List UInt8) : DInv (appN s k b).2 := by
  have hf := fileOf_ok h k
  unfold appN
  split
  · exact h
  · rename_i h1
    split
    · exact h
    · rename_i h2
      split
      · exact h
      · rename_i h3
        have hm : getM s.fs k = none → s.fs.length < 64 := fun hg => by
          rcases Nat.lt_or_ge s.fs.length 64 with h4 | h4
          · exact h4
          · exact absurd ⟨hg, h4⟩ h2
        split
        · refine put_inv (failS_inv h) k _ ?_ ?_ hm (ready_may h1 (by simp))
          · simp; omega
          · show (usedN s.fs : Int) - lenM s.fs k + ((fileOf s k).b ++ b.take (b.length / 2)).length ≤ s.room
            simp; omega
        · refine put_inv (failS_inv h) k _ ?_ ?_ hm (ready_may h1 (by simp))
          · simp; omega
          · show (usedN s.fs : Int) - lenM s.fs k + ((fileOf s k).b ++ b).length ≤ s.room
            simp; omega
theorem lenM_le {s : DS} (h : DInv s) (k : ByteArray) : lenM s.fs k ≤ usedN s.fs := by
  unfold lenM
  cases hg : getM s.fs k with
  | none => simp
  | some f => exact used_get hg
theorem sync_inv {s : DS} (h : DInv s) (k : ByteArray) : DInv (syncN s k).2 := by
  have hf := fileOf_ok h k
  have hu := h.used
  have hl := lenM_le h k
  unfold syncN
  split
  · exact h
  · rename_i h1
    obtain ⟨h2, f, h3⟩ := known_ready h1
    split
    · exact failS_inv h
    · refine put_inv (failS_inv h) k _ (by simp) ?_ (fun hg => by rw [show (failS s).fs = s.fs from rfl, h3] at hg; cases hg) (ready_may h2 (by simp))
      show (usedN s.fs : Int) - lenM s.fs k + (fileOf s k).b.length ≤ s.room
      omega
theorem cut_inv {s : DS} (h : DInv s) (k : ByteArray) (n : Int) : DInv (cutN s k n).2 := by
  have hf := fileOf_ok h k
  have hu := h.used
  have hl := lenM_le h k
  unfold cutN
  split
  · exact h
  · rename_i h1
    obtain ⟨h2, f, h3⟩ := known_ready h1
    split
    · exact h
    · rename_i h4
      split
      · exact failS_inv h
      · refine put_inv (failS_inv h) k _ ?_ ?_ (fun hg => by rw [show (failS s).fs = s.fs from rfl, h3] at hg; cases hg) (ready_may h2 (by simp))
        · dsimp only; simp; split <;> omega
        · show (usedN s.fs : Int) - lenM s.fs k + ((fileOf s k).b.take n.toNat).length ≤ s.room
          simp; omega
theorem drop_inv {s : DS} (h : DInv s) (k : ByteArray) : DInv (dropN s k).2 := by
  unfold dropN
  split
  · exact h
  · split
    · exact failS_inv h
    · exact del_inv (failS_inv h) k
theorem lenM_del {fs : List (ByteArray × FileS)} {k t : ByteArray} : lenM (delM fs k) t ≤ lenM fs t := by
  unfold lenM
  rw [getM_delM]
  split <;> simp
theorem move_inv {s : DS} (h : DInv s) (k t : ByteArray) : DInv (moveN s k t).2 := by
  have hf := fileOf_ok h k
  have hu := h.used
  have hl := lenM_le h k
  unfold moveN
  split
  · exact h
  · rename_i h1
    obtain ⟨h2, f, h3⟩ := known_ready h1
    split
    · exact failS_inv h
    · have hd := del_inv (failS_inv h) k
      have h4 := used_del k h.nd
      refine put_inv hd t (fileOf s k) hf.1 ?_ (fun _ => ?_) (ready_may h2 (by simp))
      · show (usedN (delM s.fs k) : Int) - lenM (delM s.fs k) t + (fileOf s k).b.length ≤ s.room
        omega
      · show (delM s.fs k).length < 64
        have := delM_len_lt h3
        have := h.many
        omega

/-! what a crash leaves -/
theorem crashL_names : ∀ (ks : List ByteArray) (ls : List LeftS) (fs : List (ByteArray × FileS)), (∀ k ∈ ks, k ∈ fs.map Prod.fst) → (crashL ks ls fs).map Prod.fst = fs.map Prod.fst
  | [], _, _, _ => rfl
  | k :: ks, ls, fs, h => by
    rw [crashL]
    have hn := putM_names (h k (by simp)) (crashF ((getM fs k).getD ⟨[], 0⟩) (ls.headD ⟨0, false⟩))
    rw [crashL_names ks ls.tail _ (fun q hq => by rw [hn]; exact h q (by simp [hq])), hn]
theorem crashL_sure : ∀ (ks : List ByteArray) (ls : List LeftS) (fs : List (ByteArray × FileS)), (∀ k ∈ ks, k ∈ fs.map Prod.fst) → (∀ e ∈ fs, 0 ≤ e.2.s ∧ e.2.s ≤ e.2.b.length) → ∀ e ∈ crashL ks ls fs, 0 ≤ e.2.s ∧ e.2.s ≤ e.2.b.length
  | [], _, _, _, h => h
  | k :: ks, ls, fs, hk, h => by
    rw [crashL]
    have hn := putM_names (hk k (by simp)) (crashF ((getM fs k).getD ⟨[], 0⟩) (ls.headD ⟨0, false⟩))
    refine crashL_sure ks ls.tail _ (fun q hq => by rw [hn]; exact hk q (by simp [hq])) (putM_all h ?_)
    obtain ⟨f, hf⟩ := getM_of_mem (hk k (by simp))
    rw [hf]
    exact (crashF_len (h _ (getM_mem hf))).1
theorem crashL_used : ∀ (ks : List ByteArray) (ls : List LeftS) (fs : List (ByteArray × FileS)), (fs.map Prod.fst).Nodup → (∀ k ∈ ks, k ∈ fs.map Prod.fst) → (∀ e ∈ fs, 0 ≤ e.2.s ∧ e.2.s ≤ e.2.b.length) → usedN (crashL ks ls fs) ≤ usedN fs
  | [], _, _, _, _, _ => Nat.le_refl _
  | k :: ks, ls, fs, hd, hk, h => by
    rw [crashL]
    have hn := putM_names (hk k (by simp)) (crashF ((getM fs k).getD ⟨[], 0⟩) (ls.headD ⟨0, false⟩))
    obtain ⟨f, hf⟩ := getM_of_mem (hk k (by simp))
    have hl := crashF_len (x := ls.headD ⟨0, false⟩) (h _ (getM_mem hf))
    have hu := used_put k (crashF f (ls.headD ⟨0, false⟩)) hd
    have hlm : lenM fs k = f.b.length := by unfold lenM; rw [hf]; rfl
    rw [hf] at hn ⊢
    refine Nat.le_trans (crashL_used ks ls.tail _ (by rw [hn]; exact hd) (fun q hq => by rw [hn]; exact hk q (by simp [hq])) (putM_all h hl.1)) ?_
    dsimp only [Option.getD_some] at hl hu ⊢
    omega
theorem files_mem {s : DS} {k : ByteArray} : k ∈ filesL s ↔ k ∈ s.fs.map Prod.fst := (filesL_perm s).mem_iff
theorem crash_inv {s : DS} (h : DInv s) (l : List LeftS) : DInv (crashS s l) := by
  have hm : ∀ k ∈ filesL s, k ∈ s.fs.map Prod.fst := fun k hk => files_mem.1 hk
  have hn := crashL_names (filesL s) l s.fs hm
  have hu := crashL_used (filesL s) l s.fs h.nd hm h.sure
  have h1 := h.used
  have h2 := h.many
  refine ⟨h.room, ?_, ?_, ?_, crashL_sure _ _ _ hm h.sure, ⟨by show (-1 : Int) ≤ -1; omega, by show (-1 : Int) ≤ _; omega⟩, fun e he => ?_⟩
  · show (usedN (crashL (filesL s) l s.fs) : Int) ≤ s.room
    omega
  · show (crashL (filesL s) l s.fs).length ≤ 64
    have := congrArg List.length hn
    simp only [List.length_map] at this
    omega
  · show ((crashL (filesL s) l s.fs).map Prod.fst).Nodup
    rw [hn]; exact h.nd
  · have : e.1 ∈ s.fs.map Prod.fst := by rw [← hn]; exact List.mem_map_of_mem he
    obtain ⟨e2, he2, heq⟩ := List.mem_map.1 this
    rw [← heq]
    exact h.may e2 he2

theorem real_inv {s : DS} (h : DInv s) (x : DAct) (b : List UInt8) (l : List LeftS) (hn : x.n ≤ 9223372036854775807) : DInv (realN s x b l).2 := by
  unfold realN
  split
  · exact app_inv h _ _
  split
  · exact sync_inv h _
  split
  · exact cut_inv h _ _
  split
  · exact move_inv h _ _
  split
  · exact drop_inv h _
  split
  · refine ⟨h.room, h.used, h.many, h.nd, h.sure, ?_, h.may⟩
    show -1 ≤ armN x.n ∧ armN x.n ≤ 9223372036854775807
    unfold armN
    split <;> omega
  split
  · exact crash_inv h l
  · exact h

end Go.Proofs.Ytjneocpbpnbopaa
