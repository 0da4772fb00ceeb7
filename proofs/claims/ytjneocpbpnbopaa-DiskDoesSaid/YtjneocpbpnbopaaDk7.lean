/- Disks: Crash. -/
import Derived.Test.YtjneocpbpnbopaaDk6
import Derived.Test.YtjneocpbpnbopaaSc
set_option linter.unusedVariables false
set_option linter.unusedSimpArgs false
set_option maxRecDepth 100000
namespace Go.Proofs.Ytjneocpbpnbopaa
open Go
attribute [local irreducible] Exit.then Exit.inBlock Code.wp runS bodyPost postF J runT cutQ cutR Tr Sat blk Sl Old Star Ex Pu
attribute [local irreducible] MapA MapB IterA IterS All
open Kv Vv

structure LeftS where
  keep : Int
  zero : Bool
instance : Enc LeftS := ⟨fun x => [.int .i64 x.keep, .bool x.zero], 2, fun _ => rfl, by decide, fun x u hu => by simp at hu; rcases hu with rfl | rfl <;> rfl⟩

def crashK (f : FileS) (x : LeftS) : Int :=
  f.s + (if (f.b.length : Int) - f.s < (if 0 > x.keep then 0 else x.keep) then (f.b.length : Int) - f.s else (if 0 > x.keep then 0 else x.keep))
def crashF (f : FileS) (x : LeftS) : FileS :=
  if x.zero = true then ⟨f.b.take (crashK f x).toNat ++ List.replicate (f.b.length - (crashK f x).toNat) 0, f.b.length⟩ else ⟨f.b.take (crashK f x).toNat, crashK f x⟩
def crashL : List ByteArray → List LeftS → List (ByteArray × FileS) → List (ByteArray × FileS)
  | [], _, fs => fs
  | k :: ks, ls, fs => crashL ks ls.tail (putM fs k (crashF ((getM fs k).getD ⟨[], 0⟩) (ls.headD ⟨0, false⟩)))
def crashS (s : DS) (ls : List LeftS) : DS := ⟨s.room, false, -1, crashL (filesL s) ls s.fs⟩

theorem crashK_le {f : FileS} {x : LeftS} (h : 0 ≤ f.s ∧ f.s ≤ f.b.length) : f.s ≤ crashK f x ∧ crashK f x ≤ f.b.length := by
  unfold crashK
  split <;> split <;> omega
theorem crashF_len {f : FileS} {x : LeftS} (h : 0 ≤ f.s ∧ f.s ≤ f.b.length) : (0 ≤ (crashF f x).s ∧ (crashF f x).s ≤ (crashF f x).b.length) ∧ (crashF f x).b.length ≤ f.b.length := by
  have := crashK_le (x := x) h
  unfold crashF
  split
  · simp; omega
  · simp; omega
theorem putM_names {β : Type} {l : List (ByteArray × β)} {k : ByteArray} (h : k ∈ l.map Prod.fst) (y : β) : (putM l k y).map Prod.fst = l.map Prod.fst := by
  unfold putM
  rw [if_pos h, List.map_map]
  refine List.map_congr_left fun e _ => ?_
  simp only [Function.comp]
  split
  · rename_i he; exact he.symm
  · rfl
theorem putM_all {β : Type} {l : List (ByteArray × β)} {k : ByteArray} {y : β} {p : ByteArray × β → Prop} (h : ∀ e ∈ l, p e) (hy : p (k, y)) : ∀ e ∈ putM l k y, p e := by
  unfold putM
  split
  · intro e he
    obtain ⟨e0, h0, rfl⟩ := List.mem_map.1 he
    split
    · exact hy
    · exact h e0 h0
  · intro e he
    rcases List.mem_append.1 he with he | he
    · exact h e he
    · rw [List.mem_singleton.1 he]; exact hy
theorem filesL_perm (s : DS) : (filesL s).Perm (s.fs.map Prod.fst) := sortB_perm _
theorem getM_of_mem {β : Type} {l : List (ByteArray × β)} {k : ByteArray} (h : k ∈ l.map Prod.fst) : ∃ y, getM l k = some y := by
  cases hg : getM l k with
  | some y => exact ⟨y, rfl⟩
  | none =>
    unfold getM at hg
    rw [Option.map_eq_none_iff, List.find?_eq_none] at hg
    obtain ⟨e, he, hek⟩ := List.mem_map.1 h
    exact absurd (by simpa using hek) (hg e he)

theorem offA_fit {a : Option Addr} {cap sz n : Nat} {ls : List UInt8} (h : (cap = 0 ∧ ls = []) ∨ ∃ b, a = some ⟨b, 0, none⟩) (hn : n ≤ cap) : offA a 0 n sz = a :=
  offA_zero' (ls := ([] : List UInt8)) (h.elim (fun h => .inl ⟨by omega, rfl⟩) .inr)
theorem used_mem {fs : List (ByteArray × FileS)} {e : ByteArray × FileS} (h : e ∈ fs) : e.2.b.length ≤ usedN fs := by
  unfold usedN
  induction fs with
  | nil => cases h
  | cons x fs ih =>
    rw [List.map_cons, List.sum_cons]
    rcases List.mem_cons.1 h with rfl | h
    · omega
    · have := ih h; omega

theorem dcrash_spec (d : Nat) (s : DS) (la : Option Addr) (lc : Nat) (ll : List LeftS) (Lq : List HP) (hv : Sees Lq (fun w => Vw w la ll)) (hI : DInv s) :
    Tr Try.prog 30 [.pointer (some ⟨d, 0, none⟩), .slice la ll.length lc] (DiskA d s :: Lq) (fun v M => v = .tuple #[] ∧ M = DiskA d (crashS s ll) :: Lq) := by
  have hroom := hI.room
  have hused := hI.used
  have hmany := hI.many
  refine tr_enter Try.func30 rfl Try.ntmps30 rfl (fun F => ?_)
  repeat' (first | (show J _ _ _ (runS _ _ _ (⟨_, _, _, _, _, none⟩ :: _)); (show J _ _ _ (runS _ _ _ (⟨_, .move _, _, _, _, _⟩ :: _)); refine j_move rfl rfl ?_)) | (show J _ _ _ (Code.wp _ _ _); first | refine j_seq ?_ | refine j_region ?_))
  (refine j_call rfl rfl (dfiles_spec d s (by omega)) ((by repeat ((exact .refl)))) rfl (fun v M N h hN => ?_); obtain ⟨a7, c7, rfl, rfl⟩ := h; (try simp only [List.nil_append, List.cons_append, List.append_assoc] at hN); subst hN)
  obtain ⟨ns, hns⟩ : ∃ ns, ns = filesL s := ⟨_, rfl⟩
  rw [← hns]
  have hnp : ns.Perm (s.fs.map Prod.fst) := by rw [hns]; exact filesL_perm s
  have hnl := hnp.length_eq
  rw [List.length_map] at hnl
  repeat' (first | (show J _ _ _ (runS _ _ _ (⟨_, _, _, _, _, none⟩ :: _)); first | (show J _ _ _ (runS _ _ _ (⟨_, .move _, _, _, _, _⟩ :: _)); refine j_move rfl rfl ?_) | (show J _ _ _ (runS _ _ _ (⟨_, .call ⟨.builtin .len, _, _⟩, _, _, _, _⟩ :: _)); ((refine j_len rfl rfl ?_)))) | refine j_nil ?_ | refine j_then ?_)
  refine j_cut (X := { fs : List (ByteArray × FileS) // fs = crashL ns ll s.fs }) (fun _ => [(0, .pointer (some ⟨d, 0, none⟩))]) (fun x => DiskA d ⟨s.room, s.down, s.arm, x.1⟩ :: Lq ++ F) ?_ (fun x => ?_)
  · refine j_block ?_
    refine j_loop (X := { x : Nat × List (ByteArray × FileS) // (x.1 ≤ ns.length ∧ crashL ns ll s.fs = crashL (ns.drop x.1) (ll.drop x.1) x.2) ∧ x.2.map Prod.fst = s.fs.map Prod.fst ∧ ∀ e ∈ x.2, (0 ≤ e.2.s ∧ e.2.s ≤ e.2.b.length) ∧ e.2.b.length ≤ 1048576 }) (fun x => [(0, .pointer (some ⟨d, 0, none⟩)), (1, .slice la ll.length lc), (10, .slice a7 ns.length c7), (11, .int .i64 (ns.length : Nat)), (12, .int .i64 (x.1.1 : Nat))]) (fun x => Sl 9 a7 c7 ns :: DiskA d ⟨s.room, s.down, s.arm, x.1.2⟩ :: (Lq ++ F)) (fun x => ns.length - x.1.1) ⟨(0, s.fs), ⟨by omega, rfl⟩, rfl, fun e he => ⟨hI.sure e he, ?_⟩⟩ ⟨rfl, rfl, rfl, rfl, rfl, trivial⟩ (by repeat ((exact .refl))) (fun x => ?_)
    · have := used_mem he
      dsimp only at this
      omega
    obtain ⟨⟨i, fs⟩, ⟨hi, hcr⟩, hnm, hfs⟩ := x
    dsimp only at hi hcr hnm hfs ⊢
    repeat' (first | (show J _ _ _ (runS _ _ _ (⟨_, _, _, _, _, none⟩ :: _)); (show J _ _ _ (runS _ _ _ (⟨_, .binOp _ _ _ _ _, _, _, _, _⟩ :: _)); ((refine j_bin rfl rfl rfl rfl ?_)))) | refine j_nil ?_ | (show J _ _ _ (Code.wp _ _ _); first | refine j_seq ?_ | refine j_region ?_ | (show J _ _ _ (Code.wp _ (.cond _ _ _) _); (refine j_dec rfl (fun h => ?_) (fun h => ?_))) | refine j_skip ?_ | refine j_exit ?_) | refine j_then ?_ | refine j_then_exit ?_ | refine j_inb_here ?_)
    · have hi2 : i < ns.length := by omega
      obtain ⟨k, hk⟩ : ∃ k, ns[i] = k := ⟨_, rfl⟩
      repeat' (first | (show J _ _ _ (runS _ _ _ (⟨_, _, _, _, _, none⟩ :: _)); (show J _ _ _ (runS _ _ _ (⟨_, .move _, _, _, _, _⟩ :: _)); refine j_move rfl rfl ?_)) | (show J _ _ _ (Code.wp _ _ _); first | refine j_seq ?_ | refine j_region ?_ | refine j_block ?_))
      refine j_idx (α := ByteArray) (ls := ns) (M := [Sl 9 a7 c7 ns]) rfl rfl (by repeat ((exact .refl))) sees_sl rfl i rfl hi2 rfl (fun b o ha hc => ?_)
      refine j_loadv (M := [Sl 9 a7 c7 ns]) (v := .string k) rfl rfl (by repeat ((exact .refl))) (fun w hw => hc 0 _ (by rw [hk]; rfl) w hw) rfl ?_
      refine j_tk (A := DiskA d _) (by repeat constructor) (j_disk (fun m l hf hn => ?_))
      replace hf : fsOf l = fs := hf
      repeat' (first | (show J _ _ _ (runS _ _ _ (⟨_, _, _, _, _, none⟩ :: _)); first | (show J _ _ _ (runS _ _ _ (⟨_, .move _, _, _, _, _⟩ :: _)); refine j_move rfl rfl ?_) | (show J _ _ _ (runS _ _ _ (⟨_, .load _ _, _, _, _, _⟩ :: _)); ((refine j_load rfl rfl (by repeat constructor) rfl rfl ?_))) | (show J _ _ _ (runS _ _ _ (⟨_, .fieldAddr _ _ _, _, _, _, _⟩ :: _)); refine j_fieldAddr rfl rfl ?_) | (show J _ _ _ (runS _ _ _ (⟨_, .nilCheck _, _, _, _, _⟩ :: _)); ((refine j_nilCheck rfl rfl ?_))) | (show J _ _ _ (runS _ _ _ (⟨_, .assign _, _, _, _, _⟩ :: _)); refine j_assign rfl rfl ?_)) | refine j_nil ?_ | (show J _ _ _ (Code.wp _ _ _); first | refine j_seq ?_ | refine j_region ?_) | refine j_then ?_)
      obtain ⟨f, hg0⟩ : ∃ f, getM fs k = some f := getM_of_mem (by rw [hnm]; exact hnp.mem_iff.1 (by rw [← hk]; exact List.getElem_mem hi2))
      obtain ⟨p, hg⟩ : ∃ p, getM (ptrs l) k = some p := by
        cases hg : getM (ptrs l) k with
        | some p => exact ⟨p, rfl⟩
        | none => rw [← hf, ptrs_none hg] at hg0; cases hg0
      obtain ⟨j, f2, hj, hg2⟩ := ptrs_some hg
      obtain rfl : f = f2 := by rw [hf, hg0] at hg2; injection hg2
      obtain ⟨⟨hs0, hs1⟩, hsz⟩ := hfs _ (getM_mem hg0)
      dsimp only at hs0 hs1 hsz
      have hdrop : ns.drop i = k :: ns.drop (i + 1) := by rw [List.drop_eq_getElem_cons hi2, hk]
      refine j_lookup (α := ByteArray) (β := Nat) (k := k) rfl rfl (by repeat constructor) rfl ?_
      rw [hg]
      repeat' (first | (show J _ _ _ (runS _ _ _ (⟨_, _, _, _, _, none⟩ :: _)); first | (show J _ _ _ (runS _ _ _ (⟨_, .move _, _, _, _, _⟩ :: _)); refine j_move rfl rfl ?_) | (show J _ _ _ (runS _ _ _ (⟨_, .fieldAddr _ _ _, _, _, _, _⟩ :: _)); refine j_fieldAddr rfl rfl ?_) | (show J _ _ _ (runS _ _ _ (⟨_, .nilCheck _, _, _, _, _⟩ :: _)); ((refine j_nilCheck rfl rfl ?_))) | (show J _ _ _ (runS _ _ _ (⟨_, .binOp _ _ _ _ _, _, _, _, _⟩ :: _)); ((refine j_bin rfl rfl rfl rfl ?_))) | (show J _ _ _ (runS _ _ _ (⟨_, .assign _, _, _, _, _⟩ :: _)); refine j_assign rfl rfl ?_) | (show J _ _ _ (runS _ _ _ (⟨_, .call ⟨.builtin .len, _, _⟩, _, _, _, _⟩ :: _)); ((refine j_len rfl rfl ?_))) | (show J _ _ _ (runS _ _ _ (⟨_, .alloc _, _, _, _, _⟩ :: _)); refine j_alloc rfl (fun b => ?_))) | refine j_nil ?_ | (show J _ _ _ (Code.wp _ _ _); first | refine j_seq ?_ | refine j_region ?_ | (show J _ _ _ (Code.wp _ (.cond _ _ _) _); (refine j_dec rfl (fun h => ?_) (fun h => ?_))) | refine j_skip ?_ | refine j_draw (by decide +kernel) ?_) | refine j_then ?_)
      · have hil : i < ll.length := by omega
        refine j_idx (α := LeftS) (ls := ll) (M := Lq) rfl rfl (by repeat (first | exact .refl | refine .drop ?_)) hv rfl i rfl hil rfl (fun b2 o2 ha2 hc2 => ?_)
        refine j_loadsv (M := Lq) (Enc.enc ll[i]) rfl rfl rfl (by repeat (first | exact .refl | refine .drop ?_)) (fun w hw q v hq => hc2 q v hq w hw) rfl ?_
        obtain ⟨x, hx⟩ : ∃ x, (ll.drop i).headD ⟨0, false⟩ = x := ⟨_, rfl⟩
        have hx2 : ll[i] = x := by rw [← hx, List.drop_eq_getElem_cons hil]; rfl
        rw [hx2]
        refine j_tk (A := All _) (by repeat constructor) (j_focus (plcs_get hj) (j_file (fun a c => ?_)))
        repeat' (first | (show J _ _ _ (runS _ _ _ (⟨_, _, _, _, _, none⟩ :: _)); first | (show J _ _ _ (runS _ _ _ (⟨_, .move _, _, _, _, _⟩ :: _)); refine j_move rfl rfl ?_) | (show J _ _ _ (runS _ _ _ (⟨_, .load _ _, _, _, _, _⟩ :: _)); ((refine j_load rfl rfl (by repeat constructor) rfl rfl ?_))) | (show J _ _ _ (runS _ _ _ (⟨_, .fieldAddr _ _ _, _, _, _, _⟩ :: _)); refine j_fieldAddr rfl rfl ?_) | (show J _ _ _ (runS _ _ _ (⟨_, .nilCheck _, _, _, _, _⟩ :: _)); ((refine j_nilCheck rfl rfl ?_))) | (show J _ _ _ (runS _ _ _ (⟨_, .store _ _ _, _, _, _, _⟩ :: _)); ((refine j_sets rfl rfl rfl (by rfl) (by repeat constructor) (by repeat constructor) (by rfl) ?_)))) | refine j_nil ?_ | (show J _ _ _ (Code.wp _ _ _); first | refine j_seq ?_ | refine j_draw (by decide +kernel) ?_) | refine j_then ?_)
        obtain ⟨K, hK⟩ : ∃ K, K = crashK f x := ⟨_, rfl⟩
        have hKb := crashK_le (f := f) (x := x) ⟨hs0, hs1⟩
        rw [← hK] at hKb
        have hf1 := crashF_len (f := f) (x := x) ⟨hs0, hs1⟩
        have hrnd : crashL ns ll s.fs = crashL (ns.drop (i + 1)) (ll.drop (i + 1)) (putM fs k (crashF f x)) := by
          rw [hcr, hdrop, crashL, hx, List.tail_drop, hg0]; rfl
        have hnm2 : (putM fs k (crashF f x)).map Prod.fst = s.fs.map Prod.fst := by rw [putM_names (List.mem_map_of_mem (f := Prod.fst) (getM_mem hg0)), hnm]
        have hfs2 : ∀ e ∈ putM fs k (crashF f x), (0 ≤ e.2.s ∧ e.2.s ≤ e.2.b.length) ∧ e.2.b.length ≤ 1048576 := putM_all hfs ⟨hf1.1, by show (crashF f x).b.length ≤ _; omega⟩
        refine j_max rfl rfl rfl ?_
        repeat' ((show J _ _ _ (runS _ _ _ (⟨_, _, _, _, _, none⟩ :: _)); first | (show J _ _ _ (runS _ _ _ (⟨_, .move _, _, _, _, _⟩ :: _)); refine j_move rfl rfl ?_) | (show J _ _ _ (runS _ _ _ (⟨_, .load _ _, _, _, _, _⟩ :: _)); ((refine j_load rfl rfl (by repeat constructor) rfl rfl ?_))) | (show J _ _ _ (runS _ _ _ (⟨_, .fieldAddr _ _ _, _, _, _, _⟩ :: _)); refine j_fieldAddr rfl rfl ?_) | (show J _ _ _ (runS _ _ _ (⟨_, .nilCheck _, _, _, _, _⟩ :: _)); ((refine j_nilCheck rfl rfl ?_))) | (show J _ _ _ (runS _ _ _ (⟨_, .binOp _ _ _ _ _, _, _, _, _⟩ :: _)); ((refine j_sub_ rfl rfl (by omega) rfl ?_))) | (show J _ _ _ (runS _ _ _ (⟨_, .call ⟨.builtin .len, _, _⟩, _, _, _, _⟩ :: _)); ((refine j_len rfl rfl ?_)))))
        refine j_min rfl rfl rfl ?_
        rw [show (if (f.b.length : Int) - f.s < (if 0 > x.keep then 0 else x.keep) then (f.b.length : Int) - f.s else (if 0 > x.keep then 0 else x.keep)) = K - f.s from by rw [hK]; unfold crashK; omega]
        refine j_sl_or (α := UInt8) (ls := f.b) (by repeat constructor) (fun hc1 hc2 hor => ?_)
        repeat' (first | (show J _ _ _ (runS _ _ _ (⟨_, _, _, _, _, none⟩ :: _)); first | (show J _ _ _ (runS _ _ _ (⟨_, .move _, _, _, _, _⟩ :: _)); refine j_move rfl rfl ?_) | (show J _ _ _ (runS _ _ _ (⟨_, .load _ _, _, _, _, _⟩ :: _)); ((refine j_load rfl rfl (by repeat constructor) rfl rfl ?_))) | (show J _ _ _ (runS _ _ _ (⟨_, .fieldAddr _ _ _, _, _, _, _⟩ :: _)); refine j_fieldAddr rfl rfl ?_) | (show J _ _ _ (runS _ _ _ (⟨_, .nilCheck _, _, _, _, _⟩ :: _)); ((refine j_nilCheck rfl rfl ?_))) | (show J _ _ _ (runS _ _ _ (⟨_, .binOp _ _ _ _ _, _, _, _, _⟩ :: _)); ((refine j_add rfl rfl (by omega) rfl ?_))) | (show J _ _ _ (runS _ _ _ (⟨_, .assign _, _, _, _, _⟩ :: _)); refine j_assign rfl rfl ?_)) | refine j_nil ?_ | (show J _ _ _ (Code.wp _ _ _); first | refine j_seq ?_ | refine j_region ?_ | (show J _ _ _ (Code.wp _ (.cond _ _ _) _); (refine j_bool rfl (fun h => ?_) (fun h => ?_))) | refine j_skip ?_) | refine j_then ?_)
        · have hF : crashF f x = ⟨f.b.take K.toNat ++ List.replicate (f.b.length - K.toNat) 0, f.b.length⟩ := by unfold crashF; rw [if_pos h, ← hK]
          refine j_from K.toNat rfl rfl (by omega) (by omega) rfl ?_
          repeat' (fail)
          refine j_clear0 (ls := f.b) (a := a) (cap := c) K.toNat (0 : UInt8) rfl rfl (by intro v hv; simp [Value.cells] at hv; subst hv; rfl) rfl ?_ (by omega) (by repeat constructor) ?_
          · rcases hor with ⟨h1, h2⟩ | ⟨b7, h2⟩
            · left; rw [h2]; simp
            · by_cases hcK : c = K.toNat
              · left; omega
              · right; exact ⟨b7, h2, by rw [h2]; exact offA_some (by omega)⟩
          repeat' (first | (show J _ _ _ (runS _ _ _ (⟨_, _, _, _, _, none⟩ :: _)); first | (show J _ _ _ (runS _ _ _ (⟨_, .move _, _, _, _, _⟩ :: _)); refine j_move rfl rfl ?_) | (show J _ _ _ (runS _ _ _ (⟨_, .load _ _, _, _, _, _⟩ :: _)); ((refine j_load rfl rfl (by repeat constructor) rfl rfl ?_))) | (show J _ _ _ (runS _ _ _ (⟨_, .fieldAddr _ _ _, _, _, _, _⟩ :: _)); refine j_fieldAddr rfl rfl ?_) | (show J _ _ _ (runS _ _ _ (⟨_, .nilCheck _, _, _, _, _⟩ :: _)); ((refine j_nilCheck rfl rfl ?_))) | (show J _ _ _ (runS _ _ _ (⟨_, .assign _, _, _, _, _⟩ :: _)); refine j_assign rfl rfl ?_) | (show J _ _ _ (runS _ _ _ (⟨_, .call ⟨.builtin .len, _, _⟩, _, _, _, _⟩ :: _)); ((refine j_len rfl rfl ?_)))) | refine j_nil ?_ | (show J _ _ _ (Code.wp _ _ _); first | refine j_seq ?_ | refine j_region ?_) | refine j_then ?_)
          refine j_slice 0 f.b.length f.b.length rfl (.inr ⟨_, _, _, rfl, rfl, rfl, hc1⟩) (.inr ⟨_, _, _, rfl, rfl, rfl, Nat.le_refl _⟩) (.inl ⟨rfl, rfl⟩) rfl ?_
          rw [offA_fit hor hc1]
          simp only [Nat.sub_zero]
          repeat' (first | (show J _ _ _ (runS _ _ _ (⟨_, _, _, _, _, none⟩ :: _)); first | (show J _ _ _ (runS _ _ _ (⟨_, .move _, _, _, _, _⟩ :: _)); refine j_move rfl rfl ?_) | (show J _ _ _ (runS _ _ _ (⟨_, .fieldAddr _ _ _, _, _, _, _⟩ :: _)); refine j_fieldAddr rfl rfl ?_) | (show J _ _ _ (runS _ _ _ (⟨_, .nilCheck _, _, _, _, _⟩ :: _)); ((refine j_nilCheck rfl rfl ?_))) | (show J _ _ _ (runS _ _ _ (⟨_, .binOp _ _ _ _ _, _, _, _, _⟩ :: _)); ((refine j_add rfl rfl (by omega) rfl ?_))) | (show J _ _ _ (runS _ _ _ (⟨_, .store _ _ _, _, _, _, _⟩ :: _)); ((refine j_set rfl rfl rfl (by rfl) (by repeat constructor) (by repeat constructor) ?_)))) | refine j_nil ?_ | (show J _ _ _ (Code.wp _ _ _); (refine j_region ?_)) | refine j_then ?_ | refine j_inb ?_)
          refine j_recap (c := f.b.length) (ls := f.b.take K.toNat ++ List.replicate (f.b.length - K.toNat) 0) (by repeat constructor) (by simp; omega) hc1 ?_
          refine j_tk (A := All _) (by repeat constructor) (j_tk (A := Sl 5 _ _ _) (by repeat constructor) (j_tk (A := blk p _ _) (by repeat constructor) (j_unfile (by simp; omega) (j_unfocus (by rw [plcs_len]; exact (List.getElem?_eq_some_iff.1 hj).1) ?_))))
          rw [← hF, ← plcs_set (k := k) (p := p)]
          refine j_tk (A := MapA m _) (by repeat constructor) ?_
          rw [← ptrs_set hj (crashF f x)]
          refine j_tk (A := blk d _ _) (by repeat constructor) (j_undisk (by rw [names_set hj]; exact hn) ?_)
          rw [fsOf_set hn hj, hf]
          exact j_round ⟨(i + 1, putM fs k (crashF f x)), ⟨by dsimp only; omega, hrnd⟩, hnm2, hfs2⟩ (by dsimp only; omega) ⟨rfl, rfl, rfl, rfl, rfl, trivial⟩ (by repeat (first | exact .refl | apply Pk.cons | refine .drop ?_ | constructor))
        · have hF : crashF f x = ⟨f.b.take K.toNat, K⟩ := by unfold crashF; rw [if_neg (by rw [h]; simp), ← hK]
          refine j_slice 0 K.toNat K.toNat rfl (.inr ⟨_, _, _, rfl, rfl, by omega, by omega⟩) (.inr ⟨_, _, _, rfl, rfl, by omega, Nat.le_refl _⟩) (.inl ⟨rfl, rfl⟩) rfl ?_
          rw [offA_fit hor (by omega)]
          simp only [Nat.sub_zero]
          repeat' (first | (show J _ _ _ (runS _ _ _ (⟨_, _, _, _, _, none⟩ :: _)); first | (show J _ _ _ (runS _ _ _ (⟨_, .move _, _, _, _, _⟩ :: _)); refine j_move rfl rfl ?_) | (show J _ _ _ (runS _ _ _ (⟨_, .fieldAddr _ _ _, _, _, _, _⟩ :: _)); refine j_fieldAddr rfl rfl ?_) | (show J _ _ _ (runS _ _ _ (⟨_, .nilCheck _, _, _, _, _⟩ :: _)); ((refine j_nilCheck rfl rfl ?_))) | (show J _ _ _ (runS _ _ _ (⟨_, .binOp _ _ _ _ _, _, _, _, _⟩ :: _)); ((refine j_add rfl rfl (by omega) rfl ?_))) | (show J _ _ _ (runS _ _ _ (⟨_, .store _ _ _, _, _, _, _⟩ :: _)); ((refine j_set rfl rfl rfl (by rfl) (by repeat constructor) (by repeat constructor) ?_)))) | refine j_nil ?_ | (show J _ _ _ (Code.wp _ _ _); (refine j_region ?_)) | refine j_then ?_ | refine j_inb ?_)
          refine j_shrink (α := UInt8) (ls := f.b) K.toNat (by repeat constructor) ?_
          refine j_recap (c := K.toNat) (ls := f.b.take K.toNat) (by repeat constructor) (by simp; omega) (by omega) ?_
          rw [show f.s + (K - f.s) = K from by omega]
          refine j_tk (A := All _) (by repeat constructor) (j_tk (A := Sl 5 _ _ _) (by repeat constructor) (j_tk (A := blk p _ _) (by repeat constructor) (j_unfile (by simp; omega) (j_unfocus (by rw [plcs_len]; exact (List.getElem?_eq_some_iff.1 hj).1) ?_))))
          rw [← hF, ← plcs_set (k := k) (p := p)]
          refine j_tk (A := MapA m _) (by repeat constructor) ?_
          rw [← ptrs_set hj (crashF f x)]
          refine j_tk (A := blk d _ _) (by repeat constructor) (j_undisk (by rw [names_set hj]; exact hn) ?_)
          rw [fsOf_set hn hj, hf]
          exact j_round ⟨(i + 1, putM fs k (crashF f x)), ⟨by dsimp only; omega, hrnd⟩, hnm2, hfs2⟩ (by dsimp only; omega) ⟨rfl, rfl, rfl, rfl, rfl, trivial⟩ (by repeat (first | exact .refl | apply Pk.cons | refine .drop ?_ | constructor))
      · obtain ⟨x, hx⟩ : ∃ x, (ll.drop i).headD ⟨0, false⟩ = x := ⟨_, rfl⟩
        have hx2 : x = ⟨0, false⟩ := by rw [← hx, List.drop_eq_nil_of_le (by omega)]; rfl
        refine j_tk (A := All _) (by repeat constructor) (j_focus (plcs_get hj) (j_file (fun a c => ?_)))
        rw [show (Value.agg #[Value.int .i64 0, Value.bool false]).cells.toList = [.int .i64 x.keep, .bool x.zero] from by rw [hx2]; rfl]
        repeat' ((show J _ _ _ (runS _ _ _ (⟨_, _, _, _, _, none⟩ :: _)); first | (show J _ _ _ (runS _ _ _ (⟨_, .load _ _, _, _, _, _⟩ :: _)); ((refine j_load rfl rfl (by repeat constructor) rfl rfl ?_))) | (show J _ _ _ (runS _ _ _ (⟨_, .fieldAddr _ _ _, _, _, _, _⟩ :: _)); refine j_fieldAddr rfl rfl ?_)))
        obtain ⟨K, hK⟩ : ∃ K, K = crashK f x := ⟨_, rfl⟩
        have hKb := crashK_le (f := f) (x := x) ⟨hs0, hs1⟩
        rw [← hK] at hKb
        have hf1 := crashF_len (f := f) (x := x) ⟨hs0, hs1⟩
        have hrnd : crashL ns ll s.fs = crashL (ns.drop (i + 1)) (ll.drop (i + 1)) (putM fs k (crashF f x)) := by
          rw [hcr, hdrop, crashL, hx, List.tail_drop, hg0]; rfl
        have hnm2 : (putM fs k (crashF f x)).map Prod.fst = s.fs.map Prod.fst := by rw [putM_names (List.mem_map_of_mem (f := Prod.fst) (getM_mem hg0)), hnm]
        have hfs2 : ∀ e ∈ putM fs k (crashF f x), (0 ≤ e.2.s ∧ e.2.s ≤ e.2.b.length) ∧ e.2.b.length ≤ 1048576 := putM_all hfs ⟨hf1.1, by show (crashF f x).b.length ≤ _; omega⟩
        refine j_max rfl rfl rfl ?_
        repeat' ((show J _ _ _ (runS _ _ _ (⟨_, _, _, _, _, none⟩ :: _)); first | (show J _ _ _ (runS _ _ _ (⟨_, .move _, _, _, _, _⟩ :: _)); refine j_move rfl rfl ?_) | (show J _ _ _ (runS _ _ _ (⟨_, .load _ _, _, _, _, _⟩ :: _)); ((refine j_load rfl rfl (by repeat constructor) rfl rfl ?_))) | (show J _ _ _ (runS _ _ _ (⟨_, .fieldAddr _ _ _, _, _, _, _⟩ :: _)); refine j_fieldAddr rfl rfl ?_) | (show J _ _ _ (runS _ _ _ (⟨_, .nilCheck _, _, _, _, _⟩ :: _)); ((refine j_nilCheck rfl rfl ?_))) | (show J _ _ _ (runS _ _ _ (⟨_, .binOp _ _ _ _ _, _, _, _, _⟩ :: _)); ((refine j_sub_ rfl rfl (by omega) rfl ?_))) | (show J _ _ _ (runS _ _ _ (⟨_, .call ⟨.builtin .len, _, _⟩, _, _, _, _⟩ :: _)); ((refine j_len rfl rfl ?_)))))
        refine j_min rfl rfl rfl ?_
        rw [show (if (f.b.length : Int) - f.s < (if 0 > x.keep then 0 else x.keep) then (f.b.length : Int) - f.s else (if 0 > x.keep then 0 else x.keep)) = K - f.s from by rw [hK]; unfold crashK; omega]
        refine j_sl_or (α := UInt8) (ls := f.b) (by repeat constructor) (fun hc1 hc2 hor => ?_)
        repeat' (first | (show J _ _ _ (runS _ _ _ (⟨_, _, _, _, _, none⟩ :: _)); first | (show J _ _ _ (runS _ _ _ (⟨_, .move _, _, _, _, _⟩ :: _)); refine j_move rfl rfl ?_) | (show J _ _ _ (runS _ _ _ (⟨_, .load _ _, _, _, _, _⟩ :: _)); ((refine j_load rfl rfl (by repeat constructor) rfl rfl ?_))) | (show J _ _ _ (runS _ _ _ (⟨_, .fieldAddr _ _ _, _, _, _, _⟩ :: _)); refine j_fieldAddr rfl rfl ?_) | (show J _ _ _ (runS _ _ _ (⟨_, .nilCheck _, _, _, _, _⟩ :: _)); ((refine j_nilCheck rfl rfl ?_))) | (show J _ _ _ (runS _ _ _ (⟨_, .binOp _ _ _ _ _, _, _, _, _⟩ :: _)); ((refine j_add rfl rfl (by omega) rfl ?_))) | (show J _ _ _ (runS _ _ _ (⟨_, .assign _, _, _, _, _⟩ :: _)); refine j_assign rfl rfl ?_)) | refine j_nil ?_ | (show J _ _ _ (Code.wp _ _ _); first | refine j_seq ?_ | refine j_region ?_ | (show J _ _ _ (Code.wp _ (.cond _ _ _) _); (refine j_bool rfl (fun h => ?_) (fun h => ?_))) | refine j_skip ?_) | refine j_then ?_)
        · have hF : crashF f x = ⟨f.b.take K.toNat ++ List.replicate (f.b.length - K.toNat) 0, f.b.length⟩ := by unfold crashF; rw [if_pos h, ← hK]
          refine j_from K.toNat rfl rfl (by omega) (by omega) rfl ?_
          repeat' (fail)
          refine j_clear0 (ls := f.b) (a := a) (cap := c) K.toNat (0 : UInt8) rfl rfl (by intro v hv; simp [Value.cells] at hv; subst hv; rfl) rfl ?_ (by omega) (by repeat constructor) ?_
          · rcases hor with ⟨h1, h2⟩ | ⟨b7, h2⟩
            · left; rw [h2]; simp
            · by_cases hcK : c = K.toNat
              · left; omega
              · right; exact ⟨b7, h2, by rw [h2]; exact offA_some (by omega)⟩
          repeat' (first | (show J _ _ _ (runS _ _ _ (⟨_, _, _, _, _, none⟩ :: _)); first | (show J _ _ _ (runS _ _ _ (⟨_, .move _, _, _, _, _⟩ :: _)); refine j_move rfl rfl ?_) | (show J _ _ _ (runS _ _ _ (⟨_, .load _ _, _, _, _, _⟩ :: _)); ((refine j_load rfl rfl (by repeat constructor) rfl rfl ?_))) | (show J _ _ _ (runS _ _ _ (⟨_, .fieldAddr _ _ _, _, _, _, _⟩ :: _)); refine j_fieldAddr rfl rfl ?_) | (show J _ _ _ (runS _ _ _ (⟨_, .nilCheck _, _, _, _, _⟩ :: _)); ((refine j_nilCheck rfl rfl ?_))) | (show J _ _ _ (runS _ _ _ (⟨_, .assign _, _, _, _, _⟩ :: _)); refine j_assign rfl rfl ?_) | (show J _ _ _ (runS _ _ _ (⟨_, .call ⟨.builtin .len, _, _⟩, _, _, _, _⟩ :: _)); ((refine j_len rfl rfl ?_)))) | refine j_nil ?_ | (show J _ _ _ (Code.wp _ _ _); first | refine j_seq ?_ | refine j_region ?_) | refine j_then ?_)
          refine j_slice 0 f.b.length f.b.length rfl (.inr ⟨_, _, _, rfl, rfl, rfl, hc1⟩) (.inr ⟨_, _, _, rfl, rfl, rfl, Nat.le_refl _⟩) (.inl ⟨rfl, rfl⟩) rfl ?_
          rw [offA_fit hor hc1]
          simp only [Nat.sub_zero]
          repeat' (first | (show J _ _ _ (runS _ _ _ (⟨_, _, _, _, _, none⟩ :: _)); first | (show J _ _ _ (runS _ _ _ (⟨_, .move _, _, _, _, _⟩ :: _)); refine j_move rfl rfl ?_) | (show J _ _ _ (runS _ _ _ (⟨_, .fieldAddr _ _ _, _, _, _, _⟩ :: _)); refine j_fieldAddr rfl rfl ?_) | (show J _ _ _ (runS _ _ _ (⟨_, .nilCheck _, _, _, _, _⟩ :: _)); ((refine j_nilCheck rfl rfl ?_))) | (show J _ _ _ (runS _ _ _ (⟨_, .binOp _ _ _ _ _, _, _, _, _⟩ :: _)); ((refine j_add rfl rfl (by omega) rfl ?_))) | (show J _ _ _ (runS _ _ _ (⟨_, .store _ _ _, _, _, _, _⟩ :: _)); ((refine j_set rfl rfl rfl (by rfl) (by repeat constructor) (by repeat constructor) ?_)))) | refine j_nil ?_ | (show J _ _ _ (Code.wp _ _ _); (refine j_region ?_)) | refine j_then ?_ | refine j_inb ?_)
          refine j_recap (c := f.b.length) (ls := f.b.take K.toNat ++ List.replicate (f.b.length - K.toNat) 0) (by repeat constructor) (by simp; omega) hc1 ?_
          refine j_tk (A := All _) (by repeat constructor) (j_tk (A := Sl 5 _ _ _) (by repeat constructor) (j_tk (A := blk p _ _) (by repeat constructor) (j_unfile (by simp; omega) (j_unfocus (by rw [plcs_len]; exact (List.getElem?_eq_some_iff.1 hj).1) ?_))))
          rw [← hF, ← plcs_set (k := k) (p := p)]
          refine j_tk (A := MapA m _) (by repeat constructor) ?_
          rw [← ptrs_set hj (crashF f x)]
          refine j_tk (A := blk d _ _) (by repeat constructor) (j_undisk (by rw [names_set hj]; exact hn) ?_)
          rw [fsOf_set hn hj, hf]
          exact j_round ⟨(i + 1, putM fs k (crashF f x)), ⟨by dsimp only; omega, hrnd⟩, hnm2, hfs2⟩ (by dsimp only; omega) ⟨rfl, rfl, rfl, rfl, rfl, trivial⟩ (by repeat (first | exact .refl | apply Pk.cons | refine .drop ?_ | constructor))
        · have hF : crashF f x = ⟨f.b.take K.toNat, K⟩ := by unfold crashF; rw [if_neg (by rw [h]; simp), ← hK]
          refine j_slice 0 K.toNat K.toNat rfl (.inr ⟨_, _, _, rfl, rfl, by omega, by omega⟩) (.inr ⟨_, _, _, rfl, rfl, by omega, Nat.le_refl _⟩) (.inl ⟨rfl, rfl⟩) rfl ?_
          rw [offA_fit hor (by omega)]
          simp only [Nat.sub_zero]
          repeat' (first | (show J _ _ _ (runS _ _ _ (⟨_, _, _, _, _, none⟩ :: _)); first | (show J _ _ _ (runS _ _ _ (⟨_, .move _, _, _, _, _⟩ :: _)); refine j_move rfl rfl ?_) | (show J _ _ _ (runS _ _ _ (⟨_, .fieldAddr _ _ _, _, _, _, _⟩ :: _)); refine j_fieldAddr rfl rfl ?_) | (show J _ _ _ (runS _ _ _ (⟨_, .nilCheck _, _, _, _, _⟩ :: _)); ((refine j_nilCheck rfl rfl ?_))) | (show J _ _ _ (runS _ _ _ (⟨_, .binOp _ _ _ _ _, _, _, _, _⟩ :: _)); ((refine j_add rfl rfl (by omega) rfl ?_))) | (show J _ _ _ (runS _ _ _ (⟨_, .store _ _ _, _, _, _, _⟩ :: _)); ((refine j_set rfl rfl rfl (by rfl) (by repeat constructor) (by repeat constructor) ?_)))) | refine j_nil ?_ | (show J _ _ _ (Code.wp _ _ _); (refine j_region ?_)) | refine j_then ?_ | refine j_inb ?_)
          refine j_shrink (α := UInt8) (ls := f.b) K.toNat (by repeat constructor) ?_
          refine j_recap (c := K.toNat) (ls := f.b.take K.toNat) (by repeat constructor) (by simp; omega) (by omega) ?_
          rw [show f.s + (K - f.s) = K from by omega]
          refine j_tk (A := All _) (by repeat constructor) (j_tk (A := Sl 5 _ _ _) (by repeat constructor) (j_tk (A := blk p _ _) (by repeat constructor) (j_unfile (by simp; omega) (j_unfocus (by rw [plcs_len]; exact (List.getElem?_eq_some_iff.1 hj).1) ?_))))
          rw [← hF, ← plcs_set (k := k) (p := p)]
          refine j_tk (A := MapA m _) (by repeat constructor) ?_
          rw [← ptrs_set hj (crashF f x)]
          refine j_tk (A := blk d _ _) (by repeat constructor) (j_undisk (by rw [names_set hj]; exact hn) ?_)
          rw [fsOf_set hn hj, hf]
          exact j_round ⟨(i + 1, putM fs k (crashF f x)), ⟨by dsimp only; omega, hrnd⟩, hnm2, hfs2⟩ (by dsimp only; omega) ⟨rfl, rfl, rfl, rfl, rfl, trivial⟩ (by repeat (first | exact .refl | apply Pk.cons | refine .drop ?_ | constructor))
    · rw [List.drop_eq_nil_of_le (by omega), crashL] at hcr
      exact j_cutend ⟨fs, hcr.symm⟩ ⟨rfl, trivial⟩ (by repeat (first | exact .refl | apply Pk.cons | refine .drop ?_ | constructor))
  · obtain ⟨fs, hfs⟩ := x
    simp only [List.cons_append]
    refine j_disk (fun m l hf hn => ?_)
    repeat' (first | (show J _ _ _ (runS _ _ _ (⟨_, _, _, _, _, none⟩ :: _)); first | (show J _ _ _ (runS _ _ _ (⟨_, .move _, _, _, _, _⟩ :: _)); refine j_move rfl rfl ?_) | (show J _ _ _ (runS _ _ _ (⟨_, .fieldAddr _ _ _, _, _, _, _⟩ :: _)); refine j_fieldAddr rfl rfl ?_) | (show J _ _ _ (runS _ _ _ (⟨_, .nilCheck _, _, _, _, _⟩ :: _)); ((refine j_nilCheck rfl rfl ?_))) | (show J _ _ _ (runS _ _ _ (⟨_, .store _ _ _, _, _, _, _⟩ :: _)); ((refine j_set rfl rfl rfl (by rfl) (by repeat constructor) (by repeat constructor) ?_)))) | refine j_nil ?_ | (show J _ _ _ (Code.wp _ _ _); (refine j_region ?_)) | refine j_then ?_ | refine j_retn ?_)
    refine j_undisk hn ?_
    rw [hf]
    have hA : (⟨s.room, false, -1, fs⟩ : DS) = crashS s ll := by rw [hfs, hns]; rfl
    dsimp only
    rw [hA]
    exact j_ret0 (M := DiskA d (crashS s ll) :: Lq) rfl .refl ⟨rfl, rfl⟩

end Go.Proofs.Ytjneocpbpnbopaa
