/- Pieces of memory; names; what a crash leaves of a file. -/
import Derived.Test.YtjneocpbpnbopaaDkJ
import Derived.Test.YtjneocpbpnbopaaSd
set_option linter.unusedVariables false
set_option linter.unusedSimpArgs false
set_option maxRecDepth 100000
namespace Go.Proofs.Ytjneocpbpnbopaa
open Go
attribute [local irreducible] Exit.then Exit.inBlock Code.wp runS bodyPost postF J runT cutQ cutR Tr Sat blk Sl Old Star Ex Pu
attribute [local irreducible] MapA MapB IterA IterS All
attribute [local irreducible] cutK plApp
open Kv Vv

def pcB (p : Pc) : HP := Sl 5 p.1 p.2.1 p.2.2
instance (p : Pc) : Loc (pcB p) := inferInstanceAs (Loc (Sl _ _ _ _))
def pcl (ps : List Pc) : List HP := ps.map pcB
theorem pcl_snoc (ps : List Pc) (p : Pc) : pcl ps ++ [pcB p] = pcl (ps ++ [p]) := by unfold pcl; rw [List.map_append]; rfl
theorem pcl_get {ps : List Pc} {i : Nat} {p : Pc} (h : ps[i]? = some p) : (pcl ps)[i]? = some (pcB p) := by unfold pcl; rw [List.getElem?_map, h]; rfl
theorem pcl_set (ps : List Pc) (i : Nat) (p : Pc) : (pcl ps).set i (pcB p) = pcl (ps.set i p) := by unfold pcl; rw [List.map_set]
theorem pcl_len (ps : List Pc) : (pcl ps).length = ps.length := by simp [pcl]
theorem hdl_snoc (ps : List Pc) (p : Pc) : ps.map hdOf ++ [hdOf p] = (ps ++ [p]).map hdOf := by rw [List.map_append]; rfl

theorem dnames_spec (a b : Option Addr) (c e : Nat) (l k : List ByteArray) (Lp : List HP) (hv : Sees Lp (fun w => Vw w a l)) (hw : Sees Lp (fun w => Vw w b k)) (hll : l.length ≤ 1000000) (hkl : k.length ≤ 1000000) :
    Tr Try.prog 31 [.slice a l.length c, .slice b k.length e] Lp (fun v M => v = .bool (decide (l = k)) ∧ M = Lp) := by
  refine tr_enter Try.func31 rfl Try.ntmps31 rfl (fun F => ?_)
  repeat' (first | (show J _ _ _ (runS _ _ _ (⟨_, _, _, _, _, none⟩ :: _)); first | (show J _ _ _ (runS _ _ _ (⟨_, .move _, _, _, _, _⟩ :: _)); refine j_move rfl rfl ?_) | (show J _ _ _ (runS _ _ _ (⟨_, .binOp _ _ _ _ _, _, _, _, _⟩ :: _)); ((refine j_bin rfl rfl rfl rfl ?_))) | (show J _ _ _ (runS _ _ _ (⟨_, .assign _, _, _, _, _⟩ :: _)); refine j_assign rfl rfl ?_) | (show J _ _ _ (runS _ _ _ (⟨_, .call ⟨.builtin .len, _, _⟩, _, _, _, _⟩ :: _)); ((refine j_len rfl rfl ?_)))) | refine j_nil ?_ | (show J _ _ _ (Code.wp _ _ _); first | refine j_seq ?_ | refine j_region ?_ | (show J _ _ _ (Code.wp _ (.cond _ _ _) _); (refine j_dec rfl (fun h => ?_) (fun h => ?_))) | refine j_ret ?_ | refine j_skip ?_) | refine j_then ?_ | refine j_then_ret ?_)
  · exact j_ret1 (M := Lp) rfl rfl .refl ⟨congrArg Value.bool (by symm; simp; intro e; subst e; exact h rfl), rfl⟩
  have hlk : l.length = k.length := by omega
  clear h
  refine j_block ?_
  refine j_loop (X := { i : Nat // i ≤ l.length ∧ l.take i = k.take i }) (fun i => [(0, .slice a l.length c), (1, .slice b k.length e), (12, .int .i64 (l.length : Nat)), (13, .int .i64 (i.1 : Nat))]) (fun i => Lp ++ F) (fun i => l.length - i.1) ⟨0, by omega, by simp⟩ ⟨rfl, rfl, rfl, rfl, trivial⟩ .refl (fun i => ?_)
  obtain ⟨i, hi, hti⟩ := i
  dsimp only at hi hti ⊢
  repeat' (first | (show J _ _ _ (runS _ _ _ (⟨_, _, _, _, _, none⟩ :: _)); first | (show J _ _ _ (runS _ _ _ (⟨_, .move _, _, _, _, _⟩ :: _)); refine j_move rfl rfl ?_) | (show J _ _ _ (runS _ _ _ (⟨_, .binOp _ _ _ _ _, _, _, _, _⟩ :: _)); ((refine j_bin rfl rfl rfl rfl ?_))) | (show J _ _ _ (runS _ _ _ (⟨_, .assign _, _, _, _, _⟩ :: _)); refine j_assign rfl rfl ?_)) | refine j_nil ?_ | (show J _ _ _ (Code.wp _ _ _); first | refine j_seq ?_ | refine j_region ?_ | refine j_block ?_ | (show J _ _ _ (Code.wp _ (.cond _ _ _) _); (refine j_dec rfl (fun h => ?_) (fun h => ?_))) | refine j_ret ?_ | refine j_skip ?_ | refine j_exit ?_ | refine j_draw (by decide +kernel) ?_) | refine j_then ?_ | refine j_then_exit ?_ | refine j_inb_here ?_)
  · have h1 : i < l.length := by omega
    have h2 : i < k.length := by omega
    refine j_idx (α := ByteArray) (M := Lp) rfl rfl .refl hv rfl i rfl h1 rfl (fun b1 o1 ha1 hc1 => ?_)
    repeat' (fail)
    refine j_loadv (M := Lp) (v := .string l[i]) rfl rfl .refl (fun w hw => hc1 0 _ rfl w hw) rfl ?_
    repeat' ((show J _ _ _ (runS _ _ _ (⟨_, _, _, _, _, none⟩ :: _)); (show J _ _ _ (runS _ _ _ (⟨_, .move _, _, _, _, _⟩ :: _)); refine j_move rfl rfl ?_)))
    refine j_idx (α := ByteArray) (M := Lp) rfl rfl .refl hw rfl i rfl h2 rfl (fun b2 o2 ha2 hc2 => ?_)
    repeat' (fail)
    refine j_loadv (M := Lp) (v := .string k[i]) rfl rfl .refl (fun w hw => hc2 0 _ rfl w hw) rfl ?_
    repeat' (first | (show J _ _ _ (runS _ _ _ (⟨_, _, _, _, _, none⟩ :: _)); first | (show J _ _ _ (runS _ _ _ (⟨_, .move _, _, _, _, _⟩ :: _)); refine j_move rfl rfl ?_) | (show J _ _ _ (runS _ _ _ (⟨_, .binOp _ _ _ _ _, _, _, _, _⟩ :: _)); (first | refine j_add rfl rfl (by omega) rfl ?_ | refine j_nestr rfl rfl rfl ?_)) | (show J _ _ _ (runS _ _ _ (⟨_, .assign _, _, _, _, _⟩ :: _)); refine j_assign rfl rfl ?_)) | refine j_nil ?_ | (show J _ _ _ (Code.wp _ _ _); first | refine j_seq ?_ | refine j_region ?_ | (show J _ _ _ (Code.wp _ (.cond _ _ _) _); (refine j_dec rfl (fun h => ?_) (fun h => ?_))) | refine j_ret ?_ | refine j_skip ?_) | refine j_then ?_ | refine j_then_ret ?_ | refine j_inb ?_ | refine j_inb_ret ?_)
    · exact j_ret1 (M := Lp) rfl rfl .refl ⟨congrArg Value.bool (by symm; simp; intro e; subst e; exact h rfl), rfl⟩
    · refine j_round ⟨i + 1, h1, ?_⟩ (by dsimp only; omega) ⟨rfl, rfl, rfl, rfl, trivial⟩ .refl
      rw [List.take_add_one, List.take_add_one, hti, List.getElem?_eq_getElem h1, List.getElem?_eq_getElem h2, Decidable.not_not.1 h]
  · rw [List.take_of_length_le (by omega), List.take_of_length_le (by omega)] at hti
    exact j_ret1 (M := Lp) rfl rfl .refl ⟨congrArg Value.bool (by symm; simpa using hti), rfl⟩

/-- what a crash leaves -/
def Torn (f g : FileS) : Prop :=
  g.s = g.b.length ∧ g.b.length ≤ f.b.length ∧ ∃ m : Nat, f.s ≤ m ∧ m ≤ g.b.length ∧ g.b.take m = f.b.take m ∧ (∀ j, m ≤ j → j < g.b.length → g.b[j]? = some 0) ∧ (m < g.b.length → g.b.length = f.b.length)
theorem torn_crash {f : FileS} (x : LeftS) (h : 0 ≤ f.s ∧ f.s ≤ f.b.length) : Torn f (crashF f x) := by
  have hk := crashK_le (x := x) h
  have h0 : 0 ≤ crashK f x := by omega
  generalize hK : crashK f x = K at hk h0
  obtain ⟨m, rfl⟩ : ∃ m : Nat, K = m := ⟨K.toNat, by omega⟩
  unfold crashF
  rw [hK, Int.toNat_natCast]
  split
  · refine ⟨by simp; omega, by simp; omega, m, hk.1, by simp; omega, ?_, ?_, ?_⟩
    · rw [List.take_append_of_le_length (by simp; omega), List.take_take, Nat.min_self]
    · intro j h1 h2
      rw [List.getElem?_append_right (by simp; omega), List.getElem?_replicate]
      simp at h2 ⊢
      omega
    · intro _; simp; omega
  · refine ⟨by simp; omega, by simp; omega, m, hk.1, by simp; omega, ?_, ?_, ?_⟩
    · rw [List.take_take, Nat.min_self]
    · intro j h1 h2
      simp at h2; omega
    · intro h1; simp at h1; omega
theorem crash_full {f : FileS} (x : LeftS) (h : f.s = f.b.length) : crashF f x = f := by
  have hk : crashK f x = f.b.length := by unfold crashK; rw [h]; split <;> split <;> omega
  unfold crashF
  rw [hk, Int.toNat_natCast, Nat.sub_self, List.take_of_length_le (Nat.le_refl _)]
  simp only [List.replicate_zero, List.append_nil]
  rw [← h]
  simp
theorem crashL_other : ∀ (ks : List ByteArray) (ls : List LeftS) (fs : List (ByteArray × FileS)) (k : ByteArray), k ∉ ks → getM (crashL ks ls fs) k = getM fs k
  | [], _, _, _, _ => rfl
  | q :: ks, ls, fs, k, h => by
    rw [crashL, crashL_other ks ls.tail _ k (fun hm => h (by simp [hm])), getM_putM, if_neg (fun e => h (by simp [e]))]
theorem crashL_get : ∀ (ks : List ByteArray) (ls : List LeftS) (fs : List (ByteArray × FileS)) (k : ByteArray) (f : FileS), ks.Nodup → k ∈ ks → getM fs k = some f → ∃ x, getM (crashL ks ls fs) k = some (crashF f x)
  | [], _, _, _, _, _, h, _ => by simp at h
  | q :: ks, ls, fs, k, f, hn, hk, hf => by
    rw [crashL]
    rw [List.nodup_cons] at hn
    by_cases he : k = q
    · subst he
      rw [crashL_other ks ls.tail _ k hn.1, getM_putM, if_pos rfl, hf]
      exact ⟨_, rfl⟩
    · have hk' : k ∈ ks := by
        rcases List.mem_cons.1 hk with h | h
        · exact absurd h he
        · exact h
      exact crashL_get ks ls.tail _ k f hn.2 hk' (by rw [getM_putM, if_neg he]; exact hf)
theorem files_nodup {s : DS} (h : DInv s) : (filesL s).Nodup := (filesL_perm s).nodup_iff.2 h.nd
theorem crash_get {s : DS} (h : DInv s) (l : List LeftS) {k : ByteArray} {f : FileS} (hf : getM s.fs k = some f) : ∃ x, getM (crashS s l).fs k = some (crashF f x) :=
  crashL_get _ _ _ _ _ (files_nodup h) (files_mem.2 (List.mem_map_of_mem (f := Prod.fst) (getM_mem hf))) hf
theorem crash_files {s : DS} (h : DInv s) (l : List LeftS) : filesL (crashS s l) = filesL s := by
  have := crashL_names (filesL s) l s.fs (fun k hk => files_mem.1 hk)
  show sortB ((crashL (filesL s) l s.fs).map Prod.fst) = _
  rw [this]
  rfl

end Go.Proofs.Ytjneocpbpnbopaa
