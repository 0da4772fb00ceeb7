/- Merged: Ra1 Ra2 Ra3 Ra4 -/
import Derived.Test.YtnmfpgfgjjmfhaaWdX
import Derived.Test.YtnmfpgfgjjmfhaaCl6
section
set_option linter.unusedVariables false
set_option linter.unusedSimpArgs false
set_option maxRecDepth 100000
namespace Go.Proofs.Ytnmfpgfgjjmfhaa
open Go
attribute [local irreducible] Exit.then Exit.inBlock Code.wp runS bodyPost postF J runT cutQ cutR Tr Sat blk Sl Old Star Ex Pu

theorem digs_get : ∀ (f n j : Nat) (hj : j < (digs f n).length), (digs f n)[j] = UInt8.ofNat (n / 256 ^ j)
  | 0, n, j, hj => by simp [digs] at hj
  | f + 1, n, j, hj => by
    by_cases h0 : n = 0
    · simp [digs, h0] at hj
    · simp only [digs, if_neg h0] at hj ⊢
      cases j with
      | zero => simp
      | succ j =>
        simp only [List.getElem_cons_succ]
        rw [digs_get f (n / 256) j (by simpa using hj), Nat.div_div_eq_div_mul, Nat.pow_succ, Nat.mul_comm]
theorem quo256 {q : Nat} (h : q < 18446744073709551616) : IntKind.u64.wrap ((q : Int).tdiv 256) = ((q / 256 : Nat) : Int) := by
  rw [Int.tdiv_eq_ediv_of_nonneg (by omega)]
  have : ((q : Int) / 256) = ((q / 256 : Nat) : Int) := by omega
  rw [this, u64n (by omega)]
def pw (n h : Nat) : Nat := n / 256 ^ h
theorem pow_div (n h : Nat) : pw n h / 256 = pw n (h + 1) := by unfold pw; rw [Nat.div_div_eq_div_mul, Nat.pow_succ]
theorem pw_zero (n : Nat) : pw n 0 = n := by unfold pw; simp
theorem pw_le (n h : Nat) : pw n h ≤ n := Nat.div_le_self _ _
attribute [local irreducible] pw
theorem wrap_u8m (m : Nat) (h : m < 18446744073709551616) : IntKind.u8.wrap (((m : Nat) : Int).tmod 256) = ((UInt8.ofNat m).toNat : Int) := by
  rw [Int.tmod_eq_emod_of_nonneg (by omega)]
  have : ((m : Int) % 256) = ((m % 256 : Nat) : Int) := by omega
  rw [this, wrap_u8n]
  congr 1
  simp

theorem acount_spec (a : Option Addr) (c : Nat) (ls : List UInt8) (n : Nat) (hn : n < 18446744073709551616) (hb : ls.length ≤ 100000000) : Tr Try.prog 104 [.slice a ls.length c, .int .u64 (n : Nat)] [Sl 5 a c ls] (fun v M => ∃ a' c', v = .slice a' (ls ++ cntB n).length c' ∧ M = [Sl 5 a' c' (ls ++ cntB n)]) := by
  refine tr_enter Try.func104 rfl Try.ntmps104 rfl (fun F => ?_)
  repeat' (first | (show J _ _ _ (runS _ _ _ _ (⟨_, _, _, _, _, none⟩ :: _)); first | (show J _ _ _ (runS _ _ _ _ (⟨_, .move _, _, _, _, _⟩ :: _)); refine j_move rfl rfl ?_) | (show J _ _ _ (runS _ _ _ _ (⟨_, .assign _, _, _, _, _⟩ :: _)); refine j_assign rfl rfl ?_)) | refine j_nil ?_ | (show J _ _ _ (Code.wp _ _ _); first | refine j_seq ?_ | refine j_region ?_) | refine j_then ?_)
  refine j_cut (X := Unit) (fun _ => [(0, .slice a ls.length c), (1, .int .u64 (n : Nat)), (5, .int .i64 ((digs 8 n).length : Nat))]) (fun _ => Sl 5 a c ls :: F) ?_ (fun _ => ?_)
  · refine j_block ?_
    refine j_loop (X := { q : Nat × Nat × List UInt8 // (q.1 ≤ 8 ∧ q.2.1 < 256 ^ (8 - q.1)) ∧ q.2.2.length = q.1 ∧ digs 8 n = q.2.2 ++ digs (8 - q.1) q.2.1 }) (fun q => [(0, .slice a ls.length c), (1, .int .u64 (n : Nat)), (5, .int .i64 (q.1.1 : Nat)), (6, .int .u64 (q.1.2.1 : Nat))]) (fun q => Sl 5 a c ls :: F) (fun q => q.1.2.1) ⟨(0, n, []), ⟨by omega, hn⟩, rfl, rfl⟩ ⟨rfl, rfl, rfl, rfl, trivial⟩ (by repeat ((exact .refl))) (fun q => ?_)
    obtain ⟨⟨k, m, l⟩, ⟨hk, hm⟩, hl, hd⟩ := q
    dsimp only at hk hm hl hd ⊢
    have hm64 : m < 18446744073709551616 := Nat.lt_of_lt_of_le hm (by
      have : 256 ^ (8 - k) ≤ 256 ^ 8 := Nat.pow_le_pow_right (by decide) (by omega)
      exact this)
    repeat' (first | (show J _ _ _ (runS _ _ _ _ (⟨_, _, _, _, _, none⟩ :: _)); first | (show J _ _ _ (runS _ _ _ _ (⟨_, .move _, _, _, _, _⟩ :: _)); refine j_move rfl rfl ?_) | (show J _ _ _ (runS _ _ _ _ (⟨_, .binOp _ _ _ _ _, _, _, _, _⟩ :: _)); (first | refine j_add rfl rfl (by omega) rfl ?_ | refine j_bin rfl rfl rfl rfl ?_ | refine j_quo rfl rfl (by omega) rfl ?_)) | (show J _ _ _ (runS _ _ _ _ (⟨_, .assign _, _, _, _, _⟩ :: _)); refine j_assign rfl rfl ?_)) | refine j_nil ?_ | (show J _ _ _ (Code.wp _ _ _); first | refine j_seq ?_ | refine j_region ?_ | refine j_block ?_ | (show J _ _ _ (Code.wp _ (.cond _ _ _) _); (refine j_dec rfl (fun h => ?_) (fun h => ?_))) | refine j_skip ?_ | refine j_exit ?_) | refine j_then ?_ | refine j_then_exit ?_ | refine j_inb ?_ | refine j_inb_here ?_)
    · have hk8 : k < 8 := by
        rcases Nat.lt_or_ge k 8 with h8 | h8
        · exact h8
        · rw [show 8 - k = 0 from by omega] at hm
          simp at hm
          omega
      have hst : digs 8 n = (l ++ [UInt8.ofNat m]) ++ digs (8 - (k + 1)) (m / 256) := by
        rw [hd, show 8 - k = (8 - (k + 1)) + 1 from by omega, digs, if_neg (by omega), List.append_assoc]
        rfl
      have hm2 : m / 256 < 256 ^ (8 - (k + 1)) := by
        rw [Nat.div_lt_iff_lt_mul (by omega), ← Nat.pow_succ, show (8 - (k + 1)).succ = 8 - k from by omega]
        exact hm
      rw [quo256 hm64]
      refine j_round ⟨(k + 1, m / 256, l ++ [UInt8.ofNat m]), ⟨hk8, hm2⟩, ?_, hst⟩ (by dsimp only; omega) ⟨rfl, rfl, rfl, rfl, trivial⟩ (by repeat ((exact .refl)))
      dsimp only; rw [List.length_append, hl]; rfl
    · have h0 : m = 0 := by omega
      subst h0
      rw [digs_zero, List.append_nil] at hd
      rw [← hl, ← hd]
      exact j_cutend (Y := Unit) () ⟨rfl, rfl, rfl, trivial⟩ (by repeat ((exact .refl)))
  obtain ⟨l, hl⟩ : ∃ l, l = digs 8 n := ⟨_, rfl⟩
  have hlen := digs_len 8 n
  have hget : ∀ j (hj : j < l.length), l[j] = UInt8.ofNat (pw n j) := fun j hj => by
    subst hl; rw [digs_get 8 n j hj]; unfold pw; rfl
  rw [← hl] at hlen ⊢
  repeat' (first | (show J _ _ _ (runS _ _ _ _ (⟨_, _, _, _, _, none⟩ :: _)); first | (show J _ _ _ (runS _ _ _ _ (⟨_, .move _, _, _, _, _⟩ :: _)); refine j_move rfl rfl ?_) | (show J _ _ _ (runS _ _ _ _ (⟨_, .convert _ _ _, _, _, _, _⟩ :: _)); refine j_conv rfl rfl ?_)) | (show J _ _ _ (Code.wp _ _ _); first | refine j_seq ?_ | refine j_region ?_) | refine j_then ?_)
  rw [wrap_u8n]
  refine j_lit1 (α := UInt8) rfl rfl (UInt8.ofNat l.length) rfl (by decide) rfl (fun bh => ?_)
  refine j_append (α := UInt8) (ls := ls) (ms := [UInt8.ofNat l.length]) rfl rfl rfl (fun _ _ => (by repeat constructor)) (M := [blk bh 5 [.int .u8 ((UInt8.ofNat l.length).toNat : Nat)]]) (by repeat ((exact .refl))) (sees_blk1 (UInt8.ofNat l.length)) rfl rfl (by unfold maxLen; simp only [List.length_singleton]; omega) (by simp only [List.length_singleton]; omega) rfl (fun a6 c6 _ => ?_)
  repeat' (first | (show J _ _ _ (runS _ _ _ _ (⟨_, _, _, _, _, none⟩ :: _)); first | (show J _ _ _ (runS _ _ _ _ (⟨_, .move _, _, _, _, _⟩ :: _)); refine j_move rfl rfl ?_) | (show J _ _ _ (runS _ _ _ _ (⟨_, .binOp _ _ _ _ _, _, _, _, _⟩ :: _)); ((refine j_sub_ rfl rfl (by omega) rfl ?_))) | (show J _ _ _ (runS _ _ _ _ (⟨_, .assign _, _, _, _, _⟩ :: _)); refine j_assign rfl rfl ?_)) | refine j_nil ?_ | (show J _ _ _ (Code.wp _ _ _); first | refine j_seq ?_ | refine j_region ?_) | refine j_then ?_)
  refine j_block ?_
  refine j_loop (X := { q : Nat × Option Addr × Nat // q.1 ≤ l.length }) (fun q => [(0, .slice q.1.2.1 (ls ++ [UInt8.ofNat l.length] ++ (l.drop q.1.1).reverse).length q.1.2.2), (1, .int .u64 (n : Nat)), (7, .int .i64 ((q.1.1 : Int) - 1))]) (fun q => Sl 5 q.1.2.1 q.1.2.2 (ls ++ [UInt8.ofNat l.length] ++ (l.drop q.1.1).reverse) :: F) (fun q => q.1.1) ⟨(l.length, a6, c6), Nat.le_refl _⟩ ⟨by dsimp only; rw [List.drop_length]; simp; rfl, rfl, rfl, trivial⟩ (by dsimp only; rw [List.drop_length, List.reverse_nil, List.append_nil]; exact (by repeat (first | exact .refl | apply Pk.cons | refine .drop ?_ | constructor))) (fun q => ?_)
  obtain ⟨⟨j, a7, c7⟩, hj⟩ := q
  dsimp only at hj ⊢
  have hl7 : (ls ++ [UInt8.ofNat l.length] ++ (l.drop j).reverse).length ≤ ls.length + 9 := by simp; omega
  repeat' (first | (show J _ _ _ (runS _ _ _ _ (⟨_, _, _, _, _, none⟩ :: _)); first | (show J _ _ _ (runS _ _ _ _ (⟨_, .move _, _, _, _, _⟩ :: _)); refine j_move rfl rfl ?_) | (show J _ _ _ (runS _ _ _ _ (⟨_, .binOp _ _ _ _ _, _, _, _, _⟩ :: _)); ((refine j_bin rfl rfl rfl rfl ?_))) | (show J _ _ _ (runS _ _ _ _ (⟨_, .assign _, _, _, _, _⟩ :: _)); refine j_assign rfl rfl ?_)) | refine j_nil ?_ | (show J _ _ _ (Code.wp _ _ _); first | refine j_seq ?_ | refine j_region ?_ | (show J _ _ _ (Code.wp _ (.cond _ _ _) _); (refine j_dec rfl (fun h => ?_) (fun h => ?_))) | refine j_ret ?_ | refine j_skip ?_ | refine j_exit ?_) | refine j_then ?_ | refine j_then_exit ?_ | refine j_inb_here ?_)
  · obtain ⟨i, rfl⟩ : ∃ i, j = i + 1 := ⟨j - 1, by omega⟩
    have hi : i < l.length := hj
    have hst : ls ++ [UInt8.ofNat l.length] ++ (l.drop i).reverse = (ls ++ [UInt8.ofNat l.length] ++ (l.drop (i + 1)).reverse) ++ [UInt8.ofNat (pw n i)] := by
      rw [List.drop_eq_getElem_cons hi, List.reverse_cons, hget i hi]
      simp
    rw [show ((i + 1 : Nat) : Int) - 1 = ((i : Nat) : Int) from by omega]
    obtain ⟨ll, hll⟩ : ∃ ll, ll = ls ++ [UInt8.ofNat l.length] ++ (l.drop (i + 1)).reverse := ⟨_, rfl⟩
    rw [← hll] at hl7 hst ⊢
    repeat' (first | (show J _ _ _ (runS _ _ _ _ (⟨_, _, _, _, _, none⟩ :: _)); first | (show J _ _ _ (runS _ _ _ _ (⟨_, .move _, _, _, _, _⟩ :: _)); refine j_move rfl rfl ?_) | (show J _ _ _ (runS _ _ _ _ (⟨_, .assign _, _, _, _, _⟩ :: _)); refine j_assign rfl rfl ?_)) | refine j_nil ?_ | (show J _ _ _ (Code.wp _ _ _); first | refine j_seq ?_ | refine j_region ?_ | refine j_block ?_) | refine j_then ?_)
    rw [show ((n : Nat) : Int) = ((pw n 0 : Nat) : Int) from by rw [pw_zero]]
    refine j_loop (X := { g : Nat // g ≤ i }) (fun g => [(0, .slice a7 ll.length c7), (1, .int .u64 (pw n 0 : Nat)), (7, .int .i64 (i : Nat)), (8, .int .u64 (pw n g.1 : Nat)), (9, .int .i64 (g.1 : Nat))]) (fun _ => Sl 5 a7 c7 ll :: F) (fun g => i - g.1) ⟨0, by omega⟩ ⟨rfl, rfl, rfl, rfl, rfl, trivial⟩ .refl (fun g => ?_)
    obtain ⟨g, hg⟩ := g
    dsimp only
    have hq : pw n g < 18446744073709551616 := Nat.lt_of_le_of_lt (pw_le _ _) hn
    repeat' (first | (show J _ _ _ (runS _ _ _ _ (⟨_, _, _, _, _, none⟩ :: _)); first | (show J _ _ _ (runS _ _ _ _ (⟨_, .move _, _, _, _, _⟩ :: _)); refine j_move rfl rfl ?_) | (show J _ _ _ (runS _ _ _ _ (⟨_, .binOp _ _ _ _ _, _, _, _, _⟩ :: _)); (first | refine j_add rfl rfl (by omega) rfl ?_ | refine j_bin rfl rfl rfl rfl ?_ | refine j_quo rfl rfl (by omega) rfl ?_ | refine j_rem rfl rfl (by omega) rfl ?_)) | (show J _ _ _ (runS _ _ _ _ (⟨_, .assign _, _, _, _, _⟩ :: _)); refine j_assign rfl rfl ?_) | (show J _ _ _ (runS _ _ _ _ (⟨_, .convert _ _ _, _, _, _, _⟩ :: _)); refine j_conv rfl rfl ?_)) | refine j_nil ?_ | (show J _ _ _ (Code.wp _ _ _); first | refine j_seq ?_ | refine j_region ?_ | refine j_block ?_ | (show J _ _ _ (Code.wp _ (.cond _ _ _) _); (refine j_dec rfl (fun h => ?_) (fun h => ?_))) | refine j_skip ?_ | refine j_exit ?_) | refine j_then ?_ | refine j_then_exit ?_ | refine j_inb ?_ | refine j_inb_here ?_)
    · rw [quo256 hq, pow_div]
      exact j_round ⟨g + 1, by omega⟩ (by dsimp only; omega) ⟨rfl, rfl, rfl, rfl, rfl, trivial⟩ .refl
    · have he : g = i := by omega
      subst he
      rw [wrap_u8m _ hq]
      obtain ⟨u, hu⟩ : ∃ u, u = UInt8.ofNat (pw n g) := ⟨_, rfl⟩
      rw [← hu] at hst ⊢
      refine j_lit1 (α := UInt8) rfl rfl u rfl (by decide) rfl (fun bh2 => ?_)
      refine j_append (α := UInt8) (ls := ll) (ms := [u]) rfl rfl rfl (fun _ _ => (by repeat constructor)) (M := [blk bh2 5 [.int .u8 (u.toNat : Nat)]]) (by repeat ((exact .refl))) (sees_blk1 u) rfl rfl (by unfold maxLen; simp only [List.length_singleton]; omega) (by simp only [List.length_singleton]; omega) rfl (fun a8 c8 _ => ?_)
      rw [← hst, pw_zero]
      repeat' (first | (show J _ _ _ (runS _ _ _ _ (⟨_, _, _, _, _, none⟩ :: _)); first | (show J _ _ _ (runS _ _ _ _ (⟨_, .move _, _, _, _, _⟩ :: _)); refine j_move rfl rfl ?_) | (show J _ _ _ (runS _ _ _ _ (⟨_, .binOp _ _ _ _ _, _, _, _, _⟩ :: _)); ((refine j_sub_ rfl rfl (by omega) rfl ?_))) | (show J _ _ _ (runS _ _ _ _ (⟨_, .assign _, _, _, _, _⟩ :: _)); refine j_assign rfl rfl ?_)) | refine j_nil ?_ | (show J _ _ _ (Code.wp _ _ _); (refine j_region ?_)) | refine j_then ?_ | refine j_inb ?_)
      exact j_round ⟨(g, a8, c8), by dsimp only; omega⟩ (by dsimp only; omega) ⟨rfl, rfl, rfl, trivial⟩ (by repeat (first | exact .refl | apply Pk.cons | refine .drop ?_ | constructor))
  · have h0 : j = 0 := by omega
    subst h0
    rw [List.drop_zero, List.append_assoc]
    have e : ls ++ ([UInt8.ofNat l.length] ++ l.reverse) = ls ++ cntB n := by unfold cntB; rw [← hl]; rfl
    rw [e]
    repeat' (fail)
    exact j_ret1 (M := [Sl 5 a7 c7 (ls ++ cntB n)]) rfl rfl (by repeat ((exact .refl))) ⟨a7, c7, rfl, rfl⟩
end Go.Proofs.Ytnmfpgfgjjmfhaa
end

section
set_option linter.unusedVariables false
set_option linter.unusedSimpArgs false
set_option maxRecDepth 100000
namespace Go.Proofs.Ytnmfpgfgjjmfhaa
open Go
attribute [local irreducible] Exit.then Exit.inBlock Code.wp runS bodyPost postF J runT cutQ cutR Tr Sat blk Sl Old Star Ex Pu

mutual
def bigT : IA → Bool
  | .num .. => false
  | .txt s _ _ => decide (4096 < s.size)
  | .lst _ _ l => bigTL l
def bigTL : List IA → Bool
  | [] => false
  | t :: l => bigT t || bigTL l
end
theorem bigTL_any : ∀ l, bigTL l = l.any bigT
  | [] => rfl
  | t :: l => by rw [bigTL, List.any_cons, bigTL_any l]
theorem bigT_ls (t : IA) : bigT t = (decide (kindI t = 2 ∧ 4096 < (strI t).size) || (lsI t).any bigT) := by
  cases t with
  | num n a c => simp [bigT, kindI, lsI]
  | txt s a c => simp [bigT, kindI, lsI, strI]
  | lst a c l => simp [bigT, kindI, lsI, bigTL_any]
mutual
def dpI : IA → Nat
  | .num .. => 0
  | .txt .. => 0
  | .lst _ _ l => dpIL l
def dpIL : List IA → Nat
  | [] => 0
  | t :: l => max (1 + dpI t) (dpIL l)
end
theorem dpIL_at : ∀ {l : List IA} {t : IA} {k : Nat}, l[k]? = some t → 1 + dpI t ≤ dpIL l
  | x :: l, t, 0, h => by simp at h; subst h; rw [dpIL]; omega
  | x :: l, t, k + 1, h => by rw [dpIL]; have := dpIL_at (l := l) (t := t) (k := k) (by simpa using h); omega
theorem dp_at {t t' : IA} {k : Nat} (h : (lsI t)[k]? = some t') : 1 + dpI t' ≤ dpI t := by
  cases t with
  | num n a c => simp [lsI] at h
  | txt n a c => simp [lsI] at h
  | lst a c l => rw [dpI]; exact dpIL_at h
theorem cnt_take (t : IA) (k : Nat) : 1 + cntIL ((lsI t).take k) ≤ cntI t := by
  cases t with
  | num n a c => simp [lsI, cntI, cntIL]
  | txt n a c => simp [lsI, cntI, cntIL]
  | lst a c l => rw [cntI]; have := cntIL_le l k; simp only [lsI]; omega
theorem cnt_at {t t' : IA} {k : Nat} (h : (lsI t)[k]? = some t') : 1 + cntIL ((lsI t).take k) + cntI t' ≤ cntI t := by
  have h1 := cntIL_at h
  have h2 := cnt_take t (k + 1)
  omega
theorem len_cnt : ∀ (l : List IA), l.length ≤ cntIL l
  | [] => Nat.le_refl _
  | t :: l => by have := len_cnt l; have := cntI_pos t; rw [cntIL]; simp; omega
theorem ls_cnt (t : IA) : (lsI t).length < cntI t := by
  have h1 := cnt_take t (lsI t).length
  rw [List.take_length] at h1
  have := len_cnt (lsI t)
  omega

theorem any_take {α : Type} {p : α → Bool} {l : List α} {k : Nat} (h : k < l.length) : (l.take (k + 1)).any p = ((l.take k).any p || p l[k]) := by
  rw [List.take_add_one, List.getElem?_eq_getElem h, Option.toList, List.any_append]
  simp
theorem atexts_spec : ∀ (N : Nat) (t : IA), cntI t ≤ N → N ≤ 1000000 → ∀ (Lp : List HP), Sees Lp (fun w => OkI w t) → Tr Try.prog 95 [.agg (cellsI t).toArray] Lp (fun v M => v = .bool (bigT t) ∧ M = Lp) := by
  intro N
  induction N with
  | zero => intro t ht; have := cntI_pos t; omega
  | succ N ih =>
    intro t ht hN Lp hv
    have hlc := ls_cnt t
    have hbt := bigT_ls t
    rw [cells_is t]
    refine tr_enter Try.func95 rfl Try.ntmps95 rfl (fun F => ?_)
    repeat' (first | (show J _ _ _ (runS _ _ _ _ (⟨_, _, _, _, _, none⟩ :: _)); first | (show J _ _ _ (runS _ _ _ _ (⟨_, .move _, _, _, _, _⟩ :: _)); refine j_move rfl rfl ?_) | (show J _ _ _ (runS _ _ _ _ (⟨_, .load _ _, _, _, _, _⟩ :: _)); ((refine j_load rfl rfl (by repeat constructor) rfl rfl ?_))) | (show J _ _ _ (runS _ _ _ _ (⟨_, .fieldAddr _ _ _, _, _, _, _⟩ :: _)); refine j_fieldAddr rfl rfl ?_) | (show J _ _ _ (runS _ _ _ _ (⟨_, .binOp _ _ _ _ _, _, _, _, _⟩ :: _)); ((refine j_bin rfl rfl rfl rfl ?_))) | (show J _ _ _ (runS _ _ _ _ (⟨_, .assign _, _, _, _, _⟩ :: _)); refine j_assign rfl rfl ?_) | (show J _ _ _ (runS _ _ _ _ (⟨_, .pick _ _ _, _, _, _, _⟩ :: _)); (first | refine j_pick_t rfl rfl rfl ?_ | refine j_pick_f rfl rfl rfl ?_)) | (show J _ _ _ (runS _ _ _ _ (⟨_, .call ⟨.builtin .len, _, _⟩, _, _, _, _⟩ :: _)); ((refine j_len_str rfl rfl ?_))) | (show J _ _ _ (runS _ _ _ _ (⟨_, .box _ _, _, _, _, _⟩ :: _)); refine j_box rfl rfl (fun b => ?_))) | refine j_nil ?_ | (show J _ _ _ (runS _ _ _ _ (⟨_, _, _, _, _, some _⟩ :: _)); first | refine j_gno_u rfl rfl rfl rfl ?_ | refine j_gyes rfl rfl rfl ?_ | refine j_gsplit_dec rfl rfl (fun h => ?_) (fun h => ?_)) | (show J _ _ _ (Code.wp _ _ _); first | refine j_seq ?_ | refine j_region ?_ | refine j_block ?_ | (show J _ _ _ (Code.wp _ (.cond _ _ _) _); first | refine j_false rfl ?_ | refine j_dec rfl (fun h => ?_) (fun h => ?_)) | refine j_ret ?_ | refine j_skip ?_) | refine j_then ?_ | refine j_then_ret ?_)
    · exact j_ret1 (M := Lp) rfl rfl (by repeat (first | exact .refl | refine .drop ?_)) ⟨by rw [hbt, decide_eq_true (by omega), Bool.true_or], rfl⟩
    all_goals (
      have hn2 : ¬ (kindI t = 2 ∧ 4096 < (strI t).size) := by omega
      rw [decide_eq_false hn2, Bool.false_or] at hbt
      refine j_loop (X := { k : Nat // k ≤ (lsI t).length ∧ ((lsI t).take k).any bigT = false }) (fun k => [(1, .pointer (some ⟨b, 0, none⟩)), (3, .int .i64 (k.1 : Nat))]) (fun _ => blk b 64 [.int .i64 (kindI t), .int .i64 (numI t), .string (strI t), .slice (adI t) (lsI t).length (cpI t)] :: (Lp ++ F)) (fun k => (lsI t).length - k.1) ⟨0, by omega, rfl⟩ ⟨rfl, rfl, trivial⟩ .refl (fun k => ?_)
      obtain ⟨k, hkl, hka⟩ := k
      dsimp only
      repeat' (first | (show J _ _ _ (runS _ _ _ _ (⟨_, _, _, _, _, none⟩ :: _)); first | (show J _ _ _ (runS _ _ _ _ (⟨_, .move _, _, _, _, _⟩ :: _)); refine j_move rfl rfl ?_) | (show J _ _ _ (runS _ _ _ _ (⟨_, .load _ _, _, _, _, _⟩ :: _)); ((refine j_load rfl rfl (by repeat constructor) rfl rfl ?_))) | (show J _ _ _ (runS _ _ _ _ (⟨_, .fieldAddr _ _ _, _, _, _, _⟩ :: _)); refine j_fieldAddr rfl rfl ?_) | (show J _ _ _ (runS _ _ _ _ (⟨_, .binOp _ _ _ _ _, _, _, _, _⟩ :: _)); ((refine j_bin rfl rfl rfl rfl ?_))) | (show J _ _ _ (runS _ _ _ _ (⟨_, .assign _, _, _, _, _⟩ :: _)); refine j_assign rfl rfl ?_) | (show J _ _ _ (runS _ _ _ _ (⟨_, .call ⟨.builtin .len, _, _⟩, _, _, _, _⟩ :: _)); ((refine j_len rfl rfl ?_)))) | refine j_nil ?_ | (show J _ _ _ (Code.wp _ _ _); first | refine j_seq ?_ | refine j_region ?_ | refine j_block ?_ | (show J _ _ _ (Code.wp _ (.cond _ _ _) _); (refine j_dec rfl (fun h => ?_) (fun h => ?_))) | refine j_ret ?_ | refine j_skip ?_ | refine j_exit ?_) | refine j_then ?_ | refine j_then_exit ?_ | refine j_inb_here ?_)
      · have hk : k < (lsI t).length := by omega
        have hget : (lsI t)[k]? = some (lsI t)[k] := List.getElem?_eq_getElem hk
        have hca := cnt_at hget
        refine j_idx (α := IA) (M := Lp) rfl rfl (by repeat (first | exact .refl | refine .drop ?_)) hv.ok_vw rfl k rfl hk rfl (fun b3 o3 ha3 hc3 => ?_)
        refine j_loadsv (M := Lp) (cellsI (lsI t)[k]) rfl (by rw [cells_is]; rfl) rfl (by repeat (first | exact .refl | refine .drop ?_)) (fun w hw q v hq => hc3 q v hq w hw) rfl ?_
        (refine j_call rfl rfl (ih (lsI t)[k] (by omega) (by omega) (blk b 64 [.int .i64 (kindI t), .int .i64 (numI t), .string (strI t), .slice (adI t) (lsI t).length (cpI t)] :: Lp) (hv.ok_at hget).cons) (.refl) rfl (fun v M N h hN => ?_); obtain ⟨rfl, rfl⟩ := h; (try simp only [List.nil_append, List.cons_append, List.append_assoc] at hN); subst hN)
        have hst := any_take (p := bigT) hk
        repeat' (first | (show J _ _ _ (runS _ _ _ _ (⟨_, _, _, _, _, none⟩ :: _)); first | (show J _ _ _ (runS _ _ _ _ (⟨_, .move _, _, _, _, _⟩ :: _)); refine j_move rfl rfl ?_) | (show J _ _ _ (runS _ _ _ _ (⟨_, .binOp _ _ _ _ _, _, _, _, _⟩ :: _)); ((refine j_add rfl rfl (by omega) rfl ?_))) | (show J _ _ _ (runS _ _ _ _ (⟨_, .assign _, _, _, _, _⟩ :: _)); refine j_assign rfl rfl ?_)) | refine j_nil ?_ | (show J _ _ _ (Code.wp _ _ _); first | refine j_seq ?_ | refine j_region ?_ | (show J _ _ _ (Code.wp _ (.cond _ _ _) _); (refine j_bool rfl (fun h => ?_) (fun h => ?_))) | refine j_ret ?_ | refine j_skip ?_) | refine j_then ?_ | refine j_then_ret ?_ | refine j_inb ?_ | refine j_inb_ret ?_)
        · refine j_ret1 (M := Lp) rfl rfl (by repeat (first | exact .refl | refine .drop ?_)) ⟨?_, rfl⟩
          rw [hbt, List.any_eq_true.2 ⟨(lsI t)[k], List.getElem_mem hk, by assumption⟩]
        · refine j_round ⟨k + 1, by omega, ?_⟩ (by dsimp only; omega) ⟨rfl, rfl, trivial⟩ .refl
          rw [hst, hka, Bool.false_or]
          assumption
      · have he : k = (lsI t).length := by omega
        subst he
        rw [List.take_length] at hka
        exact j_ret1 (M := Lp) rfl rfl (by repeat (first | exact .refl | refine .drop ?_)) ⟨by rw [hbt, hka], rfl⟩)

theorem aformed_spec : ∀ (N : Nat) (t : IA), cntI t ≤ N → N ≤ 1000000 → ∀ (Lp : List HP), Sees Lp (fun w => OkI w t) → Tr Try.prog 96 [.agg (cellsI t).toArray] Lp (fun v M => v = .bool true ∧ M = Lp) := by
  intro N
  induction N with
  | zero => intro t ht; have := cntI_pos t; omega
  | succ N ih =>
    intro t ht hN Lp hv
    have hlc := ls_cnt t
    cases t with
    | num n a c =>
      refine tr_enter Try.func96 rfl Try.ntmps96 rfl (fun F => ?_)
      simp only [cellsI]
      repeat' (first | (show J _ _ _ (runS _ _ _ _ (⟨_, _, _, _, _, none⟩ :: _)); first | (show J _ _ _ (runS _ _ _ _ (⟨_, .move _, _, _, _, _⟩ :: _)); refine j_move rfl rfl ?_) | (show J _ _ _ (runS _ _ _ _ (⟨_, .load _ _, _, _, _, _⟩ :: _)); ((refine j_load rfl rfl (by repeat constructor) rfl rfl ?_))) | (show J _ _ _ (runS _ _ _ _ (⟨_, .fieldAddr _ _ _, _, _, _, _⟩ :: _)); refine j_fieldAddr rfl rfl ?_) | (show J _ _ _ (runS _ _ _ _ (⟨_, .binOp _ _ _ _ _, _, _, _, _⟩ :: _)); (first | refine j_bin rfl rfl rfl rfl ?_ | refine j_eqstr rfl rfl rfl ?_)) | (show J _ _ _ (runS _ _ _ _ (⟨_, .assign _, _, _, _, _⟩ :: _)); refine j_assign rfl rfl ?_) | (show J _ _ _ (runS _ _ _ _ (⟨_, .pick _ _ _, _, _, _, _⟩ :: _)); ((refine j_pick_t rfl rfl rfl ?_))) | (show J _ _ _ (runS _ _ _ _ (⟨_, .call ⟨.builtin .len, _, _⟩, _, _, _, _⟩ :: _)); ((refine j_len rfl rfl ?_))) | (show J _ _ _ (runS _ _ _ _ (⟨_, .box _ _, _, _, _, _⟩ :: _)); refine j_box rfl rfl (fun b => ?_))) | refine j_nil ?_ | (show J _ _ _ (runS _ _ _ _ (⟨_, _, _, _, _, some _⟩ :: _)); (refine j_gyes rfl rfl rfl ?_)) | (show J _ _ _ (Code.wp _ _ _); first | refine j_seq ?_ | refine j_region ?_ | refine j_block ?_ | (show J _ _ _ (Code.wp _ (.cond _ _ _) _); (refine j_true rfl ?_)) | refine j_ret ?_) | refine j_then ?_ | refine j_then_ret ?_ | refine j_inb_ret ?_)
      exact j_ret1 (M := Lp) rfl rfl (by repeat (first | exact .refl | refine .drop ?_)) ⟨rfl, rfl⟩
    | txt s a c =>
      refine tr_enter Try.func96 rfl Try.ntmps96 rfl (fun F => ?_)
      simp only [cellsI]
      repeat' (first | (show J _ _ _ (runS _ _ _ _ (⟨_, _, _, _, _, none⟩ :: _)); first | (show J _ _ _ (runS _ _ _ _ (⟨_, .move _, _, _, _, _⟩ :: _)); refine j_move rfl rfl ?_) | (show J _ _ _ (runS _ _ _ _ (⟨_, .load _ _, _, _, _, _⟩ :: _)); ((refine j_load rfl rfl (by repeat constructor) rfl rfl ?_))) | (show J _ _ _ (runS _ _ _ _ (⟨_, .fieldAddr _ _ _, _, _, _, _⟩ :: _)); refine j_fieldAddr rfl rfl ?_) | (show J _ _ _ (runS _ _ _ _ (⟨_, .binOp _ _ _ _ _, _, _, _, _⟩ :: _)); ((refine j_bin rfl rfl rfl rfl ?_))) | (show J _ _ _ (runS _ _ _ _ (⟨_, .assign _, _, _, _, _⟩ :: _)); refine j_assign rfl rfl ?_) | (show J _ _ _ (runS _ _ _ _ (⟨_, .pick _ _ _, _, _, _, _⟩ :: _)); ((refine j_pick_t rfl rfl rfl ?_))) | (show J _ _ _ (runS _ _ _ _ (⟨_, .call ⟨.builtin .len, _, _⟩, _, _, _, _⟩ :: _)); ((refine j_len rfl rfl ?_))) | (show J _ _ _ (runS _ _ _ _ (⟨_, .box _ _, _, _, _, _⟩ :: _)); refine j_box rfl rfl (fun b => ?_))) | refine j_nil ?_ | (show J _ _ _ (runS _ _ _ _ (⟨_, _, _, _, _, some _⟩ :: _)); (refine j_gyes rfl rfl rfl ?_)) | (show J _ _ _ (Code.wp _ _ _); first | refine j_seq ?_ | refine j_region ?_ | refine j_block ?_ | (show J _ _ _ (Code.wp _ (.cond _ _ _) _); first | refine j_true rfl ?_ | refine j_false rfl ?_) | refine j_ret ?_) | refine j_then ?_ | refine j_then_ret ?_ | refine j_inb_ret ?_)
      exact j_ret1 (M := Lp) rfl rfl (by repeat (first | exact .refl | refine .drop ?_)) ⟨rfl, rfl⟩
    | lst a c l =>
      obtain ⟨t, ht'⟩ : ∃ t, t = IA.lst a c l := ⟨_, rfl⟩
      have hl : l = lsI t := by rw [ht']; rfl
      have ha : a = adI t := by rw [ht']; rfl
      rw [← ht'] at hv ht hlc
      refine tr_enter Try.func96 rfl Try.ntmps96 rfl (fun F => ?_)
      simp only [cellsI]
      rw [hl, ha]
      repeat' (first | (show J _ _ _ (runS _ _ _ _ (⟨_, _, _, _, _, none⟩ :: _)); first | (show J _ _ _ (runS _ _ _ _ (⟨_, .load _ _, _, _, _, _⟩ :: _)); ((refine j_load rfl rfl (by repeat constructor) rfl rfl ?_))) | (show J _ _ _ (runS _ _ _ _ (⟨_, .fieldAddr _ _ _, _, _, _, _⟩ :: _)); refine j_fieldAddr rfl rfl ?_) | (show J _ _ _ (runS _ _ _ _ (⟨_, .binOp _ _ _ _ _, _, _, _, _⟩ :: _)); ((refine j_bin rfl rfl rfl rfl ?_))) | (show J _ _ _ (runS _ _ _ _ (⟨_, .assign _, _, _, _, _⟩ :: _)); refine j_assign rfl rfl ?_) | (show J _ _ _ (runS _ _ _ _ (⟨_, .box _ _, _, _, _, _⟩ :: _)); refine j_box rfl rfl (fun b => ?_))) | refine j_nil ?_ | (show J _ _ _ (Code.wp _ _ _); first | refine j_seq ?_ | refine j_region ?_ | refine j_block ?_ | (show J _ _ _ (Code.wp _ (.cond _ _ _) _); first | refine j_true rfl ?_ | refine j_false rfl ?_)) | refine j_then ?_)
      refine j_loop (X := { k : Nat // k ≤ (lsI t).length }) (fun k => [(1, .pointer (some ⟨b, 0, none⟩)), (3, .int .i64 (k.1 : Nat))]) (fun _ => blk b 64 [.int .i64 3, .int .i64 0, .string ⟨#[]⟩, .slice (adI t) (lsI t).length c] :: (Lp ++ F)) (fun k => (lsI t).length - k.1) ⟨0, by omega⟩ ⟨rfl, rfl, trivial⟩ .refl (fun k => ?_)
      obtain ⟨k, hkl⟩ := k
      dsimp only
      repeat' (first | (show J _ _ _ (runS _ _ _ _ (⟨_, _, _, _, _, none⟩ :: _)); first | (show J _ _ _ (runS _ _ _ _ (⟨_, .move _, _, _, _, _⟩ :: _)); refine j_move rfl rfl ?_) | (show J _ _ _ (runS _ _ _ _ (⟨_, .load _ _, _, _, _, _⟩ :: _)); ((refine j_load rfl rfl (by repeat constructor) rfl rfl ?_))) | (show J _ _ _ (runS _ _ _ _ (⟨_, .fieldAddr _ _ _, _, _, _, _⟩ :: _)); refine j_fieldAddr rfl rfl ?_) | (show J _ _ _ (runS _ _ _ _ (⟨_, .binOp _ _ _ _ _, _, _, _, _⟩ :: _)); (first | refine j_bin rfl rfl rfl rfl ?_ | refine j_eqstr rfl rfl rfl ?_)) | (show J _ _ _ (runS _ _ _ _ (⟨_, .assign _, _, _, _, _⟩ :: _)); refine j_assign rfl rfl ?_) | (show J _ _ _ (runS _ _ _ _ (⟨_, .pick _ _ _, _, _, _, _⟩ :: _)); ((refine j_pick_t rfl rfl rfl ?_))) | (show J _ _ _ (runS _ _ _ _ (⟨_, .call ⟨.builtin .len, _, _⟩, _, _, _, _⟩ :: _)); ((refine j_len rfl rfl ?_)))) | refine j_nil ?_ | (show J _ _ _ (runS _ _ _ _ (⟨_, _, _, _, _, some _⟩ :: _)); (refine j_gyes rfl rfl rfl ?_)) | (show J _ _ _ (Code.wp _ _ _); first | refine j_seq ?_ | refine j_region ?_ | refine j_block ?_ | (show J _ _ _ (Code.wp _ (.cond _ _ _) _); (refine j_dec rfl (fun h => ?_) (fun h => ?_))) | refine j_ret ?_ | refine j_skip ?_ | refine j_exit ?_) | refine j_then ?_ | refine j_then_ret ?_ | refine j_then_exit ?_ | refine j_inb_ret ?_ | refine j_inb_here ?_)
      · have hk : k < (lsI t).length := by omega
        have hget : (lsI t)[k]? = some (lsI t)[k] := List.getElem?_eq_getElem hk
        have hca := cnt_at hget
        refine j_idx (α := IA) (M := Lp) rfl rfl (by repeat (first | exact .refl | refine .drop ?_)) hv.ok_vw rfl k rfl hk rfl (fun b3 o3 ha3 hc3 => ?_)
        refine j_loadsv (M := Lp) (cellsI (lsI t)[k]) rfl (by rw [cells_is]; rfl) rfl (by repeat (first | exact .refl | refine .drop ?_)) (fun w hw q v hq => hc3 q v hq w hw) rfl ?_
        (refine j_call rfl rfl (ih (lsI t)[k] (by omega) (by omega) (blk b 64 [.int .i64 3, .int .i64 0, .string ⟨#[]⟩, .slice (adI t) (lsI t).length c] :: Lp) (hv.ok_at hget).cons) (.refl) rfl (fun v M N h hN => ?_); obtain ⟨rfl, rfl⟩ := h; (try simp only [List.nil_append, List.cons_append, List.append_assoc] at hN); subst hN)
        repeat' (first | (show J _ _ _ (runS _ _ _ _ (⟨_, _, _, _, _, none⟩ :: _)); first | (show J _ _ _ (runS _ _ _ _ (⟨_, .move _, _, _, _, _⟩ :: _)); refine j_move rfl rfl ?_) | (show J _ _ _ (runS _ _ _ _ (⟨_, .binOp _ _ _ _ _, _, _, _, _⟩ :: _)); ((refine j_add rfl rfl (by omega) rfl ?_))) | (show J _ _ _ (runS _ _ _ _ (⟨_, .assign _, _, _, _, _⟩ :: _)); refine j_assign rfl rfl ?_) | (show J _ _ _ (runS _ _ _ _ (⟨_, .unOp _ _ _, _, _, _, _⟩ :: _)); ((refine j_not_b rfl rfl ?_)))) | refine j_nil ?_ | (show J _ _ _ (Code.wp _ _ _); first | refine j_region ?_ | (show J _ _ _ (Code.wp _ (.cond _ _ _) _); (refine j_false rfl ?_)) | refine j_skip ?_) | refine j_then ?_ | refine j_inb ?_)
        exact j_round ⟨k + 1, by omega⟩ (by dsimp only; omega) ⟨rfl, rfl, trivial⟩ .refl
      · exact j_ret1 (M := Lp) rfl rfl (by repeat (first | exact .refl | refine .drop ?_)) ⟨rfl, rfl⟩

theorem aitems_spec : ∀ (N : Nat) (t : IA), cntI t ≤ N → N ≤ 1000000 → ∀ (most deep : Int), -1000000 ≤ most → most ≤ 1000000 → 1 ≤ deep → deep + dpI t ≤ 1000000 → ∀ (Lp : List HP), Sees Lp (fun w => OkI w t) →
    Tr Try.prog 94 [.agg (cellsI t).toArray, .int .i64 most, .int .i64 deep] Lp (fun v M => (∃ n d : Int, v = .tuple #[.int .i64 n, .int .i64 d] ∧ 1 ≤ n ∧ n ≤ cntI t ∧ deep ≤ d ∧ d ≤ deep + dpI t) ∧ M = Lp) := by
  intro N
  induction N with
  | zero => intro t ht; have := cntI_pos t; omega
  | succ N ih =>
    intro t ht hN most deep hm0 hm1 hd0 hd1 Lp hv
    have hlc := ls_cnt t
    rw [cells_is t]
    refine tr_enter Try.func94 rfl Try.ntmps94 rfl (fun F => ?_)
    repeat' (first | (show J _ _ _ (runS _ _ _ _ (⟨_, _, _, _, _, none⟩ :: _)); first | (show J _ _ _ (runS _ _ _ _ (⟨_, .move _, _, _, _, _⟩ :: _)); refine j_move rfl rfl ?_) | (show J _ _ _ (runS _ _ _ _ (⟨_, .assign _, _, _, _, _⟩ :: _)); refine j_assign rfl rfl ?_) | (show J _ _ _ (runS _ _ _ _ (⟨_, .box _ _, _, _, _, _⟩ :: _)); refine j_box rfl rfl (fun b => ?_))) | refine j_nil ?_ | (show J _ _ _ (Code.wp _ _ _); first | refine j_seq ?_ | refine j_region ?_ | refine j_block ?_) | refine j_then ?_)
    refine j_loop (X := { q : Nat × Int × Int // q.1 ≤ (lsI t).length ∧ 1 ≤ q.2.1 ∧ q.2.1 ≤ 1 + cntIL ((lsI t).take q.1) ∧ deep ≤ q.2.2 ∧ q.2.2 ≤ deep + dpI t }) (fun q => [(1, .int .i64 most), (2, .int .i64 deep), (3, .pointer (some ⟨b, 0, none⟩)), (8, .int .i64 q.1.2.1), (9, .int .i64 q.1.2.2), (10, .int .i64 (q.1.1 : Nat))]) (fun _ => blk b 64 [.int .i64 (kindI t), .int .i64 (numI t), .string (strI t), .slice (adI t) (lsI t).length (cpI t)] :: (Lp ++ F)) (fun q => (lsI t).length - q.1.1) ⟨(0, 1, deep), by omega, by dsimp only; omega, by dsimp only; omega, by dsimp only; omega, by dsimp only; omega⟩ ⟨rfl, rfl, rfl, rfl, rfl, rfl, trivial⟩ .refl (fun q => ?_)
    obtain ⟨⟨k, n, d⟩, hkl, hn1, hn2, hdd1, hdd2⟩ := q
    dsimp only at hkl hn1 hn2 hdd1 hdd2 ⊢
    have hct := cnt_take t k
    repeat' (first | (show J _ _ _ (runS _ _ _ _ (⟨_, _, _, _, _, none⟩ :: _)); first | (show J _ _ _ (runS _ _ _ _ (⟨_, .move _, _, _, _, _⟩ :: _)); refine j_move rfl rfl ?_) | (show J _ _ _ (runS _ _ _ _ (⟨_, .load _ _, _, _, _, _⟩ :: _)); ((refine j_load rfl rfl (by repeat constructor) rfl rfl ?_))) | (show J _ _ _ (runS _ _ _ _ (⟨_, .fieldAddr _ _ _, _, _, _, _⟩ :: _)); refine j_fieldAddr rfl rfl ?_) | (show J _ _ _ (runS _ _ _ _ (⟨_, .binOp _ _ _ _ _, _, _, _, _⟩ :: _)); ((refine j_bin rfl rfl rfl rfl ?_))) | (show J _ _ _ (runS _ _ _ _ (⟨_, .assign _, _, _, _, _⟩ :: _)); refine j_assign rfl rfl ?_) | (show J _ _ _ (runS _ _ _ _ (⟨_, .pick _ _ _, _, _, _, _⟩ :: _)); (first | refine j_pick_t rfl rfl rfl ?_ | refine j_pick_f rfl rfl rfl ?_)) | (show J _ _ _ (runS _ _ _ _ (⟨_, .call ⟨.builtin .len, _, _⟩, _, _, _, _⟩ :: _)); ((refine j_len rfl rfl ?_)))) | refine j_nil ?_ | (show J _ _ _ (runS _ _ _ _ (⟨_, _, _, _, _, some _⟩ :: _)); first | refine j_gno_u rfl rfl rfl rfl ?_ | refine j_gyes rfl rfl rfl ?_ | refine j_gsplit_dec rfl rfl (fun h => ?_) (fun h => ?_)) | (show J _ _ _ (Code.wp _ _ _); first | refine j_seq ?_ | refine j_region ?_ | refine j_block ?_ | (show J _ _ _ (Code.wp _ (.cond _ _ _) _); first | refine j_false rfl ?_ | refine j_dec rfl (fun h => ?_) (fun h => ?_)) | refine j_ret ?_ | refine j_skip ?_ | refine j_exit ?_) | refine j_then ?_ | refine j_then_exit ?_ | refine j_inb_here ?_)
    · have hk : k < (lsI t).length := by omega
      have hget : (lsI t)[k]? = some (lsI t)[k] := List.getElem?_eq_getElem hk
      have hca := cnt_at hget
      have hda := dp_at hget
      have hcs := cntIL_at hget
      refine j_idx (α := IA) (M := Lp) rfl rfl (by repeat (first | exact .refl | refine .drop ?_)) hv.ok_vw rfl k rfl hk rfl (fun b3 o3 ha3 hc3 => ?_)
      refine j_loadsv (M := Lp) (cellsI (lsI t)[k]) rfl (by rw [cells_is]; rfl) rfl (by repeat (first | exact .refl | refine .drop ?_)) (fun w hw q v hq => hc3 q v hq w hw) rfl ?_
      repeat' ((show J _ _ _ (runS _ _ _ _ (⟨_, _, _, _, _, none⟩ :: _)); first | (show J _ _ _ (runS _ _ _ _ (⟨_, .move _, _, _, _, _⟩ :: _)); refine j_move rfl rfl ?_) | (show J _ _ _ (runS _ _ _ _ (⟨_, .binOp _ _ _ _ _, _, _, _, _⟩ :: _)); (first | refine j_add rfl rfl (by omega) rfl ?_ | refine j_sub_ rfl rfl (by omega) rfl ?_))))
      (refine j_call rfl rfl (ih (lsI t)[k] (by omega) (by omega) (most - n) (deep + 1) (by omega) (by omega) (by omega) (by omega) (blk b 64 [.int .i64 (kindI t), .int .i64 (numI t), .string (strI t), .slice (adI t) (lsI t).length (cpI t)] :: Lp) (hv.ok_at hget).cons) (.refl) rfl (fun v M N h hN => ?_); obtain ⟨⟨m, e, rfl, hm1', hm2', he1, he2⟩, rfl⟩ := h; (try simp only [List.nil_append, List.cons_append, List.append_assoc] at hN); subst hN)
      repeat' (first | (show J _ _ _ (runS _ _ _ _ (⟨_, _, _, _, _, none⟩ :: _)); first | (show J _ _ _ (runS _ _ _ _ (⟨_, .move _, _, _, _, _⟩ :: _)); refine j_move rfl rfl ?_) | (show J _ _ _ (runS _ _ _ _ (⟨_, .binOp _ _ _ _ _, _, _, _, _⟩ :: _)); (first | refine j_add rfl rfl (by omega) rfl ?_ | refine j_bin rfl rfl rfl rfl ?_)) | (show J _ _ _ (runS _ _ _ _ (⟨_, .assign _, _, _, _, _⟩ :: _)); refine j_assign rfl rfl ?_) | (show J _ _ _ (runS _ _ _ _ (⟨_, .extract _ _, _, _, _, _⟩ :: _)); refine j_extract rfl rfl rfl ?_)) | refine j_nil ?_ | (show J _ _ _ (Code.wp _ _ _); first | refine j_seq ?_ | refine j_region ?_ | (show J _ _ _ (Code.wp _ (.cond _ _ _) _); (refine j_dec rfl (fun h => ?_) (fun h => ?_))) | refine j_skip ?_) | refine j_then ?_ | refine j_inb ?_)
      · exact j_round ⟨(k + 1, n + m, e), hk, by dsimp only; omega, by dsimp only; omega, by dsimp only; omega, by dsimp only; omega⟩ (by dsimp only; omega) ⟨rfl, rfl, rfl, rfl, rfl, rfl, trivial⟩ .refl
      · exact j_round ⟨(k + 1, n + m, d), hk, by dsimp only; omega, by dsimp only; omega, by dsimp only; omega, by dsimp only; omega⟩ (by dsimp only; omega) ⟨rfl, rfl, rfl, rfl, rfl, rfl, trivial⟩ .refl
    all_goals exact j_ret2 (M := Lp) rfl rfl rfl (by repeat (first | exact .refl | refine .drop ?_)) ⟨⟨n, d, rfl, hn1, by omega, hdd1, hdd2⟩, rfl⟩
end Go.Proofs.Ytnmfpgfgjjmfhaa
end

section
set_option linter.unusedVariables false
set_option linter.unusedSimpArgs false
set_option maxRecDepth 100000
namespace Go.Proofs.Ytnmfpgfgjjmfhaa
open Go
attribute [local irreducible] Exit.then Exit.inBlock Code.wp runS bodyPost postF J runT cutQ cutR Tr Sat blk Sl Old Star Ex Pu
mutual
def ranI : IA → Prop
  | .num n _ _ => -9223372036854775808 ≤ n ∧ n ≤ 9223372036854775807
  | .txt .. => True
  | .lst _ _ l => ranIL l
def ranIL : List IA → Prop
  | [] => True
  | t :: l => ranI t ∧ ranIL l
end
theorem ranIL_at {l : List IA} {i : Nat} {t : IA} (h : l[i]? = some t) (hl : ranIL l) : ranI t := by
  induction l generalizing i with
  | nil => simp at h
  | cons x l ih =>
    rw [ranIL] at hl
    match i with
    | 0 => simp at h; subst h; exact hl.1
    | i + 1 => rw [List.getElem?_cons_succ] at h; exact ih h hl.2
theorem encVL_app : ∀ (l m : List Va), encVL (l ++ m) = encVL l ++ encVL m
  | [], _ => rfl
  | v :: l, m => by rw [List.cons_append, encVL, encVL, encVL_app l m, List.append_assoc]
def encIL (l : List IA) : List UInt8 := encVL (plIL l)
theorem encIL_snoc {l : List IA} {i : Nat} {t : IA} (h : l[i]? = some t) : encIL (l.take (i + 1)) = encIL (l.take i) ++ encV (plI t) := by
  unfold encIL
  rw [plIL_snoc l h, encVL_app]
  simp [encVL]
theorem encIL_le (l : List IA) (i : Nat) : (encIL (l.take i)).length ≤ (encIL l).length := by
  have : l = l.take i ++ l.drop i := (List.take_append_drop i l).symm
  have h : encIL l = encIL (l.take i) ++ encIL (l.drop i) := by
    unfold encIL
    rw [← encVL_app, ← plIL_app, List.take_append_drop]
  rw [h, List.length_append]
  omega
theorem encV_pos (v : Va) : 1 ≤ (encV v).length := by cases v <;> simp [encV]
theorem encIL_len : ∀ (l : List IA), l.length ≤ (encIL l).length
  | [] => Nat.zero_le _
  | t :: l => by
    have := encIL_len l
    have h2 := encV_pos (plI t)
    unfold encIL at *
    rw [plIL, encVL, List.length_append]
    simp; omega
theorem zig_pos {n : Int} (h0 : 0 ≤ n) (h1 : n ≤ 9223372036854775807) : IntKind.u64.wrap (IntKind.u64.wrap n + IntKind.u64.wrap n) = (zig n : Int) := by
  rw [u64_wrap, u64_wrap]
  unfold zig
  rw [if_pos h0]
  omega
theorem zig_neg {n : Int} (h0 : ¬ 0 ≤ n) (h1 : -9223372036854775808 ≤ n) : IntKind.u64.wrap (IntKind.u64.wrap (IntKind.u64.wrap (0 - IntKind.u64.wrap n) + IntKind.u64.wrap (0 - IntKind.u64.wrap n)) - 1) = (zig n : Int) := by
  rw [u64_wrap, u64_wrap, u64_wrap, u64_wrap]
  unfold zig
  rw [if_neg h0]
  omega

theorem abytes_spec : ∀ (N : Nat) (t : IA), cntI t ≤ N → ∀ (a : Option Addr) (c : Nat) (ls : List UInt8) (Lp : List HP), Sees Lp (fun w => OkI w t) → ranI t → ls.length + (encV (plI t)).length ≤ 100000000 →
    Tr Try.prog 97 [.slice a ls.length c, .agg (cellsI t).toArray] (Sl 5 a c ls :: Lp) (fun v M => ∃ a' c', v = .slice a' (ls ++ encV (plI t)).length c' ∧ M = Sl 5 a' c' (ls ++ encV (plI t)) :: Lp) := by
  intro N
  induction N with
  | zero => intro t ht; have := cntI_pos t; omega
  | succ N ih =>
    intro t ht a c ls Lp hv hran hb
    cases t with
    | num n an cn =>
      rw [ranI] at hran
      rw [plI, encV] at hb ⊢
      have hcl := cntB_len (zig n)
      simp only [List.length_cons] at hb
      refine tr_enter Try.func97 rfl Try.ntmps97 rfl (fun F => ?_)
      simp only [cellsI]
      repeat' (first | (show J _ _ _ (runS _ _ _ _ (⟨_, _, _, _, _, none⟩ :: _)); first | (show J _ _ _ (runS _ _ _ _ (⟨_, .move _, _, _, _, _⟩ :: _)); refine j_move rfl rfl ?_) | (show J _ _ _ (runS _ _ _ _ (⟨_, .load _ _, _, _, _, _⟩ :: _)); ((refine j_load rfl rfl (by repeat constructor) rfl rfl ?_))) | (show J _ _ _ (runS _ _ _ _ (⟨_, .fieldAddr _ _ _, _, _, _, _⟩ :: _)); refine j_fieldAddr rfl rfl ?_) | (show J _ _ _ (runS _ _ _ _ (⟨_, .assign _, _, _, _, _⟩ :: _)); refine j_assign rfl rfl ?_) | (show J _ _ _ (runS _ _ _ _ (⟨_, .box _ _, _, _, _, _⟩ :: _)); refine j_box rfl rfl (fun b => ?_)) | (show J _ _ _ (runS _ _ _ _ (⟨_, .convert _ _ _, _, _, _, _⟩ :: _)); refine j_conv rfl rfl ?_)) | refine j_nil ?_ | (show J _ _ _ (Code.wp _ _ _); first | refine j_seq ?_ | refine j_region ?_) | refine j_then ?_)
      (refine j_lit1 (α := UInt8) rfl rfl 1 rfl (by decide) rfl (fun bh => ?_); refine j_append (α := UInt8) (ls := ls) (ms := [1]) rfl rfl rfl (fun _ _ => (by repeat constructor)) (M := [blk bh 5 [.int .u8 ((1 : UInt8).toNat : Nat)]]) (by repeat ((exact .refl))) (sees_blk1 (1 : UInt8)) rfl rfl (by unfold maxLen; simp only [List.length_singleton]; omega) (by simp only [List.length_singleton]; omega) rfl (fun a6 c6 _ => ?_))
      obtain ⟨p0, hp0⟩ : ∃ p0, p0 = ls ++ [1] := ⟨_, rfl⟩
      have hl1 : p0.length = ls.length + 1 := by rw [hp0]; simp
      rw [← hp0]
      repeat' (first | (show J _ _ _ (runS _ _ _ _ (⟨_, _, _, _, _, none⟩ :: _)); first | (show J _ _ _ (runS _ _ _ _ (⟨_, .move _, _, _, _, _⟩ :: _)); refine j_move rfl rfl ?_) | (show J _ _ _ (runS _ _ _ _ (⟨_, .load _ _, _, _, _, _⟩ :: _)); ((refine j_load rfl rfl (by repeat constructor) rfl rfl ?_))) | (show J _ _ _ (runS _ _ _ _ (⟨_, .fieldAddr _ _ _, _, _, _, _⟩ :: _)); refine j_fieldAddr rfl rfl ?_) | (show J _ _ _ (runS _ _ _ _ (⟨_, .binOp _ _ _ _ _, _, _, _, _⟩ :: _)); ((refine j_bin rfl rfl rfl rfl ?_))) | (show J _ _ _ (runS _ _ _ _ (⟨_, .assign _, _, _, _, _⟩ :: _)); refine j_assign rfl rfl ?_) | (show J _ _ _ (runS _ _ _ _ (⟨_, .convert _ _ _, _, _, _, _⟩ :: _)); refine j_conv rfl rfl ?_)) | refine j_nil ?_ | (show J _ _ _ (Code.wp _ _ _); first | refine j_seq ?_ | refine j_region ?_ | refine j_block ?_ | (show J _ _ _ (Code.wp _ (.cond _ _ _) _); first | refine j_true rfl ?_ | refine j_dec rfl (fun h => ?_) (fun h => ?_)) | refine j_skip ?_) | refine j_then ?_)
      · rw [zig_pos (by omega) hran.2]
        (refine j_call rfl rfl (acount_spec a6 c6 p0 (zig n) (zig_lt hran) (by omega)) ((by repeat (first | exact .refl | apply Pk.cons | constructor))) rfl (fun v M N h hN => ?_); obtain ⟨a7, c7, rfl, rfl⟩ := h; (try simp only [List.nil_append, List.cons_append, List.append_assoc] at hN); subst hN)
        have e : p0 ++ cntB (zig n) = ls ++ (1 :: cntB (zig n)) := by rw [hp0]; simp
        rw [e]
        repeat' (first | (show J _ _ _ (runS _ _ _ _ (⟨_, _, _, _, _, none⟩ :: _)); (show J _ _ _ (runS _ _ _ _ (⟨_, .assign _, _, _, _, _⟩ :: _)); refine j_assign rfl rfl ?_)) | refine j_nil ?_ | (show J _ _ _ (Code.wp _ _ _); (refine j_ret ?_)) | refine j_then ?_ | refine j_then_ret ?_ | refine j_inb_ret ?_)
        exact j_ret1 (M := Sl 5 a7 c7 (ls ++ (1 :: cntB (zig n))) :: Lp) rfl rfl (by repeat (first | exact .refl | apply Pk.cons | refine .drop ?_ | constructor)) ⟨a7, c7, rfl, rfl⟩
      · rw [zig_neg (by omega) hran.1]
        (refine j_call rfl rfl (acount_spec a6 c6 p0 (zig n) (zig_lt hran) (by omega)) ((by repeat (first | exact .refl | apply Pk.cons | constructor))) rfl (fun v M N h hN => ?_); obtain ⟨a7, c7, rfl, rfl⟩ := h; (try simp only [List.nil_append, List.cons_append, List.append_assoc] at hN); subst hN)
        have e : p0 ++ cntB (zig n) = ls ++ (1 :: cntB (zig n)) := by rw [hp0]; simp
        rw [e]
        repeat' (first | (show J _ _ _ (runS _ _ _ _ (⟨_, _, _, _, _, none⟩ :: _)); (show J _ _ _ (runS _ _ _ _ (⟨_, .assign _, _, _, _, _⟩ :: _)); refine j_assign rfl rfl ?_)) | refine j_nil ?_ | (show J _ _ _ (Code.wp _ _ _); (refine j_ret ?_)) | refine j_then ?_ | refine j_then_ret ?_ | refine j_inb_ret ?_)
        exact j_ret1 (M := Sl 5 a7 c7 (ls ++ (1 :: cntB (zig n))) :: Lp) rfl rfl (by repeat (first | exact .refl | apply Pk.cons | refine .drop ?_ | constructor)) ⟨a7, c7, rfl, rfl⟩
    | txt s an cn =>
      rw [plI, encV] at hb ⊢
      have hcl := cntB_len s.size
      have hsz : s.data.toList.length = s.size := by rw [Array.length_toList]; rfl
      simp only [List.length_cons, List.length_append, hsz] at hb
      refine tr_enter Try.func97 rfl Try.ntmps97 rfl (fun F => ?_)
      simp only [cellsI]
      repeat' (first | (show J _ _ _ (runS _ _ _ _ (⟨_, _, _, _, _, none⟩ :: _)); first | (show J _ _ _ (runS _ _ _ _ (⟨_, .move _, _, _, _, _⟩ :: _)); refine j_move rfl rfl ?_) | (show J _ _ _ (runS _ _ _ _ (⟨_, .load _ _, _, _, _, _⟩ :: _)); ((refine j_load rfl rfl (by repeat constructor) rfl rfl ?_))) | (show J _ _ _ (runS _ _ _ _ (⟨_, .fieldAddr _ _ _, _, _, _, _⟩ :: _)); refine j_fieldAddr rfl rfl ?_) | (show J _ _ _ (runS _ _ _ _ (⟨_, .assign _, _, _, _, _⟩ :: _)); refine j_assign rfl rfl ?_) | (show J _ _ _ (runS _ _ _ _ (⟨_, .box _ _, _, _, _, _⟩ :: _)); refine j_box rfl rfl (fun b => ?_)) | (show J _ _ _ (runS _ _ _ _ (⟨_, .convert _ _ _, _, _, _, _⟩ :: _)); refine j_conv rfl rfl ?_)) | refine j_nil ?_ | (show J _ _ _ (Code.wp _ _ _); first | refine j_seq ?_ | refine j_region ?_) | refine j_then ?_)
      (refine j_lit1 (α := UInt8) rfl rfl 2 rfl (by decide) rfl (fun bh => ?_); refine j_append (α := UInt8) (ls := ls) (ms := [2]) rfl rfl rfl (fun _ _ => (by repeat constructor)) (M := [blk bh 5 [.int .u8 ((2 : UInt8).toNat : Nat)]]) (by repeat ((exact .refl))) (sees_blk1 (2 : UInt8)) rfl rfl (by unfold maxLen; simp only [List.length_singleton]; omega) (by simp only [List.length_singleton]; omega) rfl (fun a6 c6 _ => ?_))
      obtain ⟨p0, hp0⟩ : ∃ p0, p0 = ls ++ [2] := ⟨_, rfl⟩
      have hl1 : p0.length = ls.length + 1 := by rw [hp0]; simp
      rw [← hp0]
      repeat' (first | (show J _ _ _ (runS _ _ _ _ (⟨_, _, _, _, _, none⟩ :: _)); first | (show J _ _ _ (runS _ _ _ _ (⟨_, .move _, _, _, _, _⟩ :: _)); refine j_move rfl rfl ?_) | (show J _ _ _ (runS _ _ _ _ (⟨_, .load _ _, _, _, _, _⟩ :: _)); ((refine j_load rfl rfl (by repeat constructor) rfl rfl ?_))) | (show J _ _ _ (runS _ _ _ _ (⟨_, .fieldAddr _ _ _, _, _, _, _⟩ :: _)); refine j_fieldAddr rfl rfl ?_) | (show J _ _ _ (runS _ _ _ _ (⟨_, .binOp _ _ _ _ _, _, _, _, _⟩ :: _)); ((refine j_bin rfl rfl rfl rfl ?_))) | (show J _ _ _ (runS _ _ _ _ (⟨_, .assign _, _, _, _, _⟩ :: _)); refine j_assign rfl rfl ?_) | (show J _ _ _ (runS _ _ _ _ (⟨_, .call ⟨.builtin .len, _, _⟩, _, _, _, _⟩ :: _)); ((refine j_len_str rfl rfl ?_))) | (show J _ _ _ (runS _ _ _ _ (⟨_, .convert _ _ _, _, _, _, _⟩ :: _)); refine j_conv rfl rfl ?_)) | refine j_nil ?_ | (show J _ _ _ (Code.wp _ _ _); first | refine j_seq ?_ | refine j_region ?_ | refine j_block ?_ | (show J _ _ _ (Code.wp _ (.cond _ _ _) _); first | refine j_true rfl ?_ | refine j_false rfl ?_)) | refine j_then ?_)
      rw [u64n (by omega)]
      (refine j_call rfl rfl (acount_spec a6 c6 p0 s.size (by omega) (by omega)) ((by repeat (first | exact .refl | apply Pk.cons | constructor))) rfl (fun v M N h hN => ?_); obtain ⟨a7, c7, rfl, rfl⟩ := h; (try simp only [List.nil_append, List.cons_append, List.append_assoc] at hN); subst hN)
      have hl2 : (p0 ++ cntB s.size).length = ls.length + 1 + (cntB s.size).length := by rw [List.length_append, hl1]
      repeat' (first | (show J _ _ _ (runS _ _ _ _ (⟨_, _, _, _, _, none⟩ :: _)); first | (show J _ _ _ (runS _ _ _ _ (⟨_, .move _, _, _, _, _⟩ :: _)); refine j_move rfl rfl ?_) | (show J _ _ _ (runS _ _ _ _ (⟨_, .load _ _, _, _, _, _⟩ :: _)); ((refine j_load rfl rfl (by repeat constructor) rfl rfl ?_))) | (show J _ _ _ (runS _ _ _ _ (⟨_, .fieldAddr _ _ _, _, _, _, _⟩ :: _)); refine j_fieldAddr rfl rfl ?_) | (show J _ _ _ (runS _ _ _ _ (⟨_, .assign _, _, _, _, _⟩ :: _)); refine j_assign rfl rfl ?_)) | refine j_nil ?_ | (show J _ _ _ (Code.wp _ _ _); first | refine j_seq ?_ | refine j_region ?_) | refine j_then ?_)
      refine j_appendS (ls := p0 ++ cntB s.size) (s := s) rfl rfl (fun _ _ => (by repeat constructor)) rfl (by unfold maxLen; omega) (by omega) rfl (fun a8 c8 _ => ?_)
      have e : p0 ++ cntB s.size ++ s.data.toList = ls ++ (2 :: cntB s.size ++ s.data.toList) := by rw [hp0]; simp
      rw [e]
      repeat' (first | (show J _ _ _ (runS _ _ _ _ (⟨_, _, _, _, _, none⟩ :: _)); (show J _ _ _ (runS _ _ _ _ (⟨_, .assign _, _, _, _, _⟩ :: _)); refine j_assign rfl rfl ?_)) | refine j_nil ?_ | (show J _ _ _ (Code.wp _ _ _); (refine j_ret ?_)) | refine j_then ?_ | refine j_then_ret ?_ | refine j_inb_ret ?_)
      exact j_ret1 (M := Sl 5 a8 c8 (ls ++ (2 :: cntB s.size ++ s.data.toList)) :: Lp) rfl rfl (by repeat (first | exact .refl | apply Pk.cons | refine .drop ?_ | constructor)) ⟨a8, c8, rfl, rfl⟩
    | lst a2 c2 l =>
      rw [ranI] at hran
      have hpl0 : plI (IA.lst a2 c2 l) = .lst (plIL l) := by simp only [plI]
      have henc : encV (plI (IA.lst a2 c2 l)) = 3 :: cntB l.length ++ encIL l := by rw [hpl0, encV, plIL_len]; rfl
      rw [henc] at hb ⊢
      rw [cntI] at ht
      have hcl := cntB_len l.length
      have hel := encIL_len l
      have hvl : Sees Lp (fun w => Vw w a2 l) := fun w hw => by have := hv w hw; simp only [OkI] at this; exact this.1
      have hvo : Sees Lp (fun w => OkIL w l) := fun w hw => by have := hv w hw; simp only [OkI] at this; exact this.2
      simp only [List.length_cons, List.length_append] at hb
      refine tr_enter Try.func97 rfl Try.ntmps97 rfl (fun F => ?_)
      simp only [cellsI]
      repeat' (first | (show J _ _ _ (runS _ _ _ _ (⟨_, _, _, _, _, none⟩ :: _)); first | (show J _ _ _ (runS _ _ _ _ (⟨_, .move _, _, _, _, _⟩ :: _)); refine j_move rfl rfl ?_) | (show J _ _ _ (runS _ _ _ _ (⟨_, .load _ _, _, _, _, _⟩ :: _)); ((refine j_load rfl rfl (by repeat constructor) rfl rfl ?_))) | (show J _ _ _ (runS _ _ _ _ (⟨_, .fieldAddr _ _ _, _, _, _, _⟩ :: _)); refine j_fieldAddr rfl rfl ?_) | (show J _ _ _ (runS _ _ _ _ (⟨_, .assign _, _, _, _, _⟩ :: _)); refine j_assign rfl rfl ?_) | (show J _ _ _ (runS _ _ _ _ (⟨_, .box _ _, _, _, _, _⟩ :: _)); refine j_box rfl rfl (fun b => ?_)) | (show J _ _ _ (runS _ _ _ _ (⟨_, .convert _ _ _, _, _, _, _⟩ :: _)); refine j_conv rfl rfl ?_)) | refine j_nil ?_ | (show J _ _ _ (Code.wp _ _ _); first | refine j_seq ?_ | refine j_region ?_) | refine j_then ?_)
      (refine j_lit1 (α := UInt8) rfl rfl 3 rfl (by decide) rfl (fun bh => ?_); refine j_append (α := UInt8) (ls := ls) (ms := [3]) rfl rfl rfl (fun _ _ => (by repeat constructor)) (M := [blk bh 5 [.int .u8 ((3 : UInt8).toNat : Nat)]]) (by repeat ((exact .refl))) (sees_blk1 (3 : UInt8)) rfl rfl (by unfold maxLen; simp only [List.length_singleton]; omega) (by simp only [List.length_singleton]; omega) rfl (fun a6 c6 _ => ?_))
      obtain ⟨p0, hp0⟩ : ∃ p0, p0 = ls ++ [3] := ⟨_, rfl⟩
      have hl1 : p0.length = ls.length + 1 := by rw [hp0]; simp
      rw [← hp0]
      repeat' (first | (show J _ _ _ (runS _ _ _ _ (⟨_, _, _, _, _, none⟩ :: _)); first | (show J _ _ _ (runS _ _ _ _ (⟨_, .move _, _, _, _, _⟩ :: _)); refine j_move rfl rfl ?_) | (show J _ _ _ (runS _ _ _ _ (⟨_, .load _ _, _, _, _, _⟩ :: _)); ((refine j_load rfl rfl (by repeat constructor) rfl rfl ?_))) | (show J _ _ _ (runS _ _ _ _ (⟨_, .fieldAddr _ _ _, _, _, _, _⟩ :: _)); refine j_fieldAddr rfl rfl ?_) | (show J _ _ _ (runS _ _ _ _ (⟨_, .binOp _ _ _ _ _, _, _, _, _⟩ :: _)); ((refine j_bin rfl rfl rfl rfl ?_))) | (show J _ _ _ (runS _ _ _ _ (⟨_, .assign _, _, _, _, _⟩ :: _)); refine j_assign rfl rfl ?_) | (show J _ _ _ (runS _ _ _ _ (⟨_, .call ⟨.builtin .len, _, _⟩, _, _, _, _⟩ :: _)); ((refine j_len rfl rfl ?_))) | (show J _ _ _ (runS _ _ _ _ (⟨_, .convert _ _ _, _, _, _, _⟩ :: _)); refine j_conv rfl rfl ?_)) | refine j_nil ?_ | (show J _ _ _ (Code.wp _ _ _); first | refine j_seq ?_ | refine j_region ?_ | refine j_block ?_ | (show J _ _ _ (Code.wp _ (.cond _ _ _) _); (refine j_false rfl ?_)) | refine j_skip ?_) | refine j_then ?_ | refine j_inb ?_)
      rw [u64n (by omega)]
      (refine j_call rfl rfl (acount_spec a6 c6 p0 l.length (by omega) (by omega)) ((by repeat (first | exact .refl | apply Pk.cons | constructor))) rfl (fun v M N h hN => ?_); obtain ⟨a7, c7, rfl, rfl⟩ := h; (try simp only [List.nil_append, List.cons_append, List.append_assoc] at hN); subst hN)
      obtain ⟨pre, hpre⟩ : ∃ pre, pre = p0 ++ cntB l.length := ⟨_, rfl⟩
      have hpl : pre.length = ls.length + 1 + (cntB l.length).length := by rw [hpre, List.length_append, hl1]
      rw [← hpre]
      repeat' (first | (show J _ _ _ (runS _ _ _ _ (⟨_, _, _, _, _, none⟩ :: _)); (show J _ _ _ (runS _ _ _ _ (⟨_, .assign _, _, _, _, _⟩ :: _)); refine j_assign rfl rfl ?_)) | refine j_nil ?_ | (show J _ _ _ (Code.wp _ _ _); first | refine j_seq ?_ | refine j_region ?_ | refine j_block ?_) | refine j_then ?_)
      refine j_loop (X := { q : Nat × Option Addr × Nat // q.1 ≤ l.length }) (fun q => [(0, .slice q.1.2.1 (pre ++ encIL (l.take q.1.1)).length q.1.2.2), (3, .pointer (some ⟨b, 0, none⟩)), (7, .int .i64 (q.1.1 : Nat))]) (fun q => Sl 5 q.1.2.1 q.1.2.2 (pre ++ encIL (l.take q.1.1)) :: blk b 64 [.int .i64 3, .int .i64 0, .string ⟨#[]⟩, .slice a2 l.length c2] :: (Lp ++ F)) (fun q => l.length - q.1.1) ⟨(0, a7, c7), by omega⟩ ⟨by dsimp only; rw [List.take_zero, encIL, plIL, encVL, List.append_nil]; rfl, rfl, rfl, trivial⟩ (by dsimp only; rw [List.take_zero, encIL, plIL, encVL, List.append_nil]; exact (by repeat (first | exact .refl | apply Pk.cons | refine .drop ?_ | constructor))) (fun q => ?_)
      obtain ⟨⟨i, a8, c8⟩, hi⟩ := q
      dsimp only at hi ⊢
      have hle := encIL_le l i
      repeat' (first | (show J _ _ _ (runS _ _ _ _ (⟨_, _, _, _, _, none⟩ :: _)); first | (show J _ _ _ (runS _ _ _ _ (⟨_, .move _, _, _, _, _⟩ :: _)); refine j_move rfl rfl ?_) | (show J _ _ _ (runS _ _ _ _ (⟨_, .load _ _, _, _, _, _⟩ :: _)); ((refine j_load rfl rfl (by repeat constructor) rfl rfl ?_))) | (show J _ _ _ (runS _ _ _ _ (⟨_, .fieldAddr _ _ _, _, _, _, _⟩ :: _)); refine j_fieldAddr rfl rfl ?_) | (show J _ _ _ (runS _ _ _ _ (⟨_, .binOp _ _ _ _ _, _, _, _, _⟩ :: _)); ((refine j_bin rfl rfl rfl rfl ?_))) | (show J _ _ _ (runS _ _ _ _ (⟨_, .assign _, _, _, _, _⟩ :: _)); refine j_assign rfl rfl ?_) | (show J _ _ _ (runS _ _ _ _ (⟨_, .call ⟨.builtin .len, _, _⟩, _, _, _, _⟩ :: _)); ((refine j_len rfl rfl ?_)))) | refine j_nil ?_ | (show J _ _ _ (Code.wp _ _ _); first | refine j_seq ?_ | refine j_region ?_ | refine j_block ?_ | (show J _ _ _ (Code.wp _ (.cond _ _ _) _); (refine j_dec rfl (fun h => ?_) (fun h => ?_))) | refine j_ret ?_ | refine j_skip ?_ | refine j_exit ?_) | refine j_then ?_ | refine j_then_exit ?_ | refine j_inb_here ?_)
      · have hi2 : i < l.length := by omega
        obtain ⟨t, hti⟩ : ∃ t, l[i]? = some t := ⟨l[i], List.getElem?_eq_getElem hi2⟩
        have hte := (List.getElem?_eq_some_iff.1 hti).2
        have hst := encIL_snoc hti
        have hle2 := encIL_le l (i + 1)
        rw [hst, List.length_append] at hle2
        have hl8 : (pre ++ encIL (l.take i)).length = pre.length + (encIL (l.take i)).length := by simp
        refine j_idx (α := IA) (M := Lp) rfl rfl (by repeat (first | exact .refl | refine .drop ?_)) hvl rfl i rfl hi2 rfl (fun b3 o3 ha3 hc3 => ?_)
        refine j_loadsv (M := Lp) (cellsI l[i]) rfl (by rw [cells_is]; rfl) rfl (by repeat (first | exact .refl | refine .drop ?_)) (fun w hw q v hq => hc3 q v hq w hw) rfl ?_
        rw [hte]
        have hszt : cntI t ≤ N := by have h1 := cntIL_at hti; have h2 := cntIL_le l (i + 1); omega
        have hvt : Sees Lp (fun w => OkI w t) := fun w hw => okIL_at hti (hvo w hw)
        (refine j_call rfl rfl (ih t hszt a8 c8 (pre ++ encIL (l.take i)) (blk b 64 [.int .i64 3, .int .i64 0, .string ⟨#[]⟩, .slice a2 l.length c2] :: Lp) hvt.cons (ranIL_at hti hran) (by omega)) (.refl) rfl (fun v M N h hN => ?_); obtain ⟨a9, c9, rfl, rfl⟩ := h; (try simp only [List.nil_append, List.cons_append, List.append_assoc] at hN); subst hN)
        rw [List.append_assoc, ← hst]
        repeat' (first | (show J _ _ _ (runS _ _ _ _ (⟨_, _, _, _, _, none⟩ :: _)); first | (show J _ _ _ (runS _ _ _ _ (⟨_, .move _, _, _, _, _⟩ :: _)); refine j_move rfl rfl ?_) | (show J _ _ _ (runS _ _ _ _ (⟨_, .binOp _ _ _ _ _, _, _, _, _⟩ :: _)); ((refine j_add rfl rfl (by omega) rfl ?_))) | (show J _ _ _ (runS _ _ _ _ (⟨_, .assign _, _, _, _, _⟩ :: _)); refine j_assign rfl rfl ?_)) | refine j_nil ?_ | (show J _ _ _ (Code.wp _ _ _); (refine j_region ?_)) | refine j_then ?_ | refine j_inb ?_)
        exact j_round ⟨(i + 1, a9, c9), hi2⟩ (by dsimp only; omega) ⟨rfl, rfl, rfl, trivial⟩ (by repeat ((exact .refl)))
      · rw [List.take_of_length_le (by omega)]
        have e : pre ++ encIL l = ls ++ (3 :: cntB l.length ++ encIL l) := by rw [hpre, hp0]; simp
        rw [e]
        exact j_ret1 (M := Sl 5 a8 c8 (ls ++ (3 :: cntB l.length ++ encIL l)) :: Lp) rfl rfl (by repeat (first | exact .refl | apply Pk.cons | refine .drop ?_ | constructor)) ⟨a8, c8, rfl, rfl⟩
theorem anum_spec (k : Int) (Lp : List HP) : Tr Try.prog 76 [.int .i64 k] Lp (fun v M => v = .agg (cellsI (.num k none 0)).toArray ∧ M = Lp) := by
  refine tr_enter Try.func76 rfl Try.ntmps76 rfl (fun F => ?_)
  repeat' (first | (show J _ _ _ (runS _ _ _ _ (⟨_, _, _, _, _, none⟩ :: _)); first | (show J _ _ _ (runS _ _ _ _ (⟨_, .move _, _, _, _, _⟩ :: _)); refine j_move rfl rfl ?_) | (show J _ _ _ (runS _ _ _ _ (⟨_, .store _ _ _, _, _, _, _⟩ :: _)); ((refine j_sets rfl rfl rfl (by rfl) (by repeat constructor) (by repeat constructor) (by rfl) ?_))) | (show J _ _ _ (runS _ _ _ _ (⟨_, .build _ _, _, _, _, _⟩ :: _)); refine j_build rfl (by repeat constructor) rfl ?_) | (show J _ _ _ (runS _ _ _ _ (⟨_, .alloc _, _, _, _, _⟩ :: _)); refine j_alloc rfl (fun b => ?_))) | refine j_nil ?_ | (show J _ _ _ (Code.wp _ _ _); first | refine j_seq ?_ | refine j_region ?_ | refine j_ret ?_) | refine j_then ?_)
  exact j_retc [.int .i64 1, .int .i64 k, .string ⟨#[]⟩, .slice none 0 0] rfl rfl rfl (by repeat constructor) rfl ⟨rfl, rfl, rfl, rfl, trivial⟩ (M := Lp) (by repeat (first | exact .refl | refine .drop ?_)) ⟨rfl, rfl⟩
theorem astr_spec (s : ByteArray) (Lp : List HP) : Tr Try.prog 77 [.string s] Lp (fun v M => v = .agg (cellsI (.txt s none 0)).toArray ∧ M = Lp) := by
  refine tr_enter Try.func77 rfl Try.ntmps77 rfl (fun F => ?_)
  repeat' (first | (show J _ _ _ (runS _ _ _ _ (⟨_, _, _, _, _, none⟩ :: _)); first | (show J _ _ _ (runS _ _ _ _ (⟨_, .move _, _, _, _, _⟩ :: _)); refine j_move rfl rfl ?_) | (show J _ _ _ (runS _ _ _ _ (⟨_, .store _ _ _, _, _, _, _⟩ :: _)); ((refine j_sets rfl rfl rfl (by rfl) (by repeat constructor) (by repeat constructor) (by rfl) ?_))) | (show J _ _ _ (runS _ _ _ _ (⟨_, .build _ _, _, _, _, _⟩ :: _)); refine j_build rfl (by repeat constructor) rfl ?_) | (show J _ _ _ (runS _ _ _ _ (⟨_, .alloc _, _, _, _, _⟩ :: _)); refine j_alloc rfl (fun b => ?_))) | refine j_nil ?_ | (show J _ _ _ (Code.wp _ _ _); first | refine j_seq ?_ | refine j_region ?_ | refine j_ret ?_) | refine j_then ?_)
  exact j_retc [.int .i64 2, .int .i64 0, .string s, .slice none 0 0] rfl rfl rfl (by repeat constructor) rfl ⟨rfl, rfl, rfl, rfl, trivial⟩ (M := Lp) (by repeat (first | exact .refl | refine .drop ?_)) ⟨rfl, rfl⟩
theorem arow_spec (a : Option Addr) (c : Nat) (l : List IA) (Lp : List HP) : Tr Try.prog 75 [.slice a l.length c] Lp (fun v M => v = .agg (cellsI (.lst a c l)).toArray ∧ M = Lp) := by
  refine tr_enter Try.func75 rfl Try.ntmps75 rfl (fun F => ?_)
  repeat' (first | (show J _ _ _ (runS _ _ _ _ (⟨_, _, _, _, _, none⟩ :: _)); first | (show J _ _ _ (runS _ _ _ _ (⟨_, .move _, _, _, _, _⟩ :: _)); refine j_move rfl rfl ?_) | (show J _ _ _ (runS _ _ _ _ (⟨_, .store _ _ _, _, _, _, _⟩ :: _)); ((refine j_sets rfl rfl rfl (by rfl) (by repeat constructor) (by repeat constructor) (by rfl) ?_))) | (show J _ _ _ (runS _ _ _ _ (⟨_, .build _ _, _, _, _, _⟩ :: _)); refine j_build rfl (by repeat constructor) rfl ?_) | (show J _ _ _ (runS _ _ _ _ (⟨_, .alloc _, _, _, _, _⟩ :: _)); refine j_alloc rfl (fun b => ?_))) | refine j_nil ?_ | (show J _ _ _ (Code.wp _ _ _); first | refine j_seq ?_ | refine j_region ?_ | refine j_ret ?_) | refine j_then ?_)
  exact j_retc [.int .i64 3, .int .i64 0, .string ⟨#[]⟩, .slice a l.length c] rfl rfl rfl (by repeat constructor) rfl ⟨rfl, rfl, rfl, rfl, trivial⟩ (M := Lp) (by repeat (first | exact .refl | refine .drop ?_)) ⟨rfl, rfl⟩
end Go.Proofs.Ytnmfpgfgjjmfhaa
end

section
set_option linter.unusedVariables false
set_option linter.unusedSimpArgs false
set_option maxRecDepth 100000
namespace Go.Proofs.Ytnmfpgfgjjmfhaa
open Go
attribute [local irreducible] Exit.then Exit.inBlock Code.wp runS bodyPost postF J runT cutQ cutR Tr Sat blk Sl Old Star Ex Pu
mutual
theorem enc_small : ∀ (t : IA), bigT t = false → (encV (plI t)).length ≤ 4200 * cntI t
  | .num n a c, _ => by
    have := cntB_len (zig n)
    simp only [plI, encV, cntI, List.length_cons]; omega
  | .txt s a c, h => by
    have := cntB_len s.size
    have hsz : s.data.toList.length = s.size := by rw [Array.length_toList]; rfl
    simp only [bigT, decide_eq_false_iff_not] at h
    simp only [plI, encV, cntI, List.length_cons, List.length_append, hsz]; omega
  | .lst a c l, h => by
    have h2 := encL_small l (by simpa only [bigT] using h)
    have := cntB_len l.length
    simp only [plI, encV, cntI, plIL_len, List.length_cons, List.length_append]; omega
theorem encL_small : ∀ (l : List IA), bigTL l = false → (encVL (plIL l)).length ≤ 4200 * cntIL l
  | [], _ => by simp [plIL, encVL, cntIL]
  | t :: l, h => by
    simp only [bigTL, Bool.or_eq_false_iff] at h
    have h1 := enc_small t h.1
    have h2 := encL_small l h.2
    simp only [plIL, encVL, cntIL, List.length_append]; omega
end
theorem aenc_spec (t : IA) (hc : cntI t ≤ 1000) (hdp : dpI t ≤ 11) (hr : ranI t) (Lp : List HP) (hv : Sees Lp (fun w => OkI w t)) : Tr Try.prog 74 [.agg (cellsI t).toArray] Lp (fun v M => (bigT t = true ∧ v = .tuple #[.slice none 0 0, .int .i64 3] ∧ M = Lp) ∨ (bigT t = false ∧ ∃ a c, v = .tuple #[.slice a (encV (plI t)).length c, .int .i64 0] ∧ M = Sl 5 a c (encV (plI t)) :: Lp)) := by
  rw [cells_is t]
  refine tr_enter Try.func74 rfl Try.ntmps74 rfl (fun F => ?_)
  repeat' (first | (show J _ _ _ (runS _ _ _ _ (⟨_, _, _, _, _, none⟩ :: _)); first | (show J _ _ _ (runS _ _ _ _ (⟨_, .assign _, _, _, _, _⟩ :: _)); refine j_assign rfl rfl ?_) | (show J _ _ _ (runS _ _ _ _ (⟨_, .box _ _, _, _, _, _⟩ :: _)); refine j_box rfl rfl (fun b => ?_))) | refine j_nil ?_ | (show J _ _ _ (Code.wp _ _ _); first | refine j_seq ?_ | refine j_region ?_) | refine j_then ?_)
  ((try rw [cells_is t]); refine j_loads [.int .i64 (kindI t), .int .i64 (numI t), .string (strI t), .slice (adI t) (lsI t).length (cpI t)] rfl rfl rfl (by repeat constructor) ⟨rfl, rfl, rfl, rfl, trivial⟩ rfl ?_; rw [← cells_is t])
  repeat' (fail)
  (refine j_call rfl rfl (aitems_spec (cntI t) t (Nat.le_refl _) (by omega) 4096 1 (by decide) (by decide) (by decide) (by omega) (blk b 64 (cellsI t) :: Lp) hv.cons) (.refl) rfl (fun v M N h hN => ?_); obtain ⟨⟨n, d, rfl, hn1, hn2, hd1, hd2⟩, rfl⟩ := h; (try simp only [List.nil_append, List.cons_append, List.append_assoc] at hN); subst hN)
  repeat' (first | (show J _ _ _ (runS _ _ _ _ (⟨_, _, _, _, _, none⟩ :: _)); first | (show J _ _ _ (runS _ _ _ _ (⟨_, .move _, _, _, _, _⟩ :: _)); refine j_move rfl rfl ?_) | (show J _ _ _ (runS _ _ _ _ (⟨_, .binOp _ _ _ _ _, _, _, _, _⟩ :: _)); ((refine j_bin rfl rfl rfl rfl ?_))) | (show J _ _ _ (runS _ _ _ _ (⟨_, .assign _, _, _, _, _⟩ :: _)); refine j_assign rfl rfl ?_) | (show J _ _ _ (runS _ _ _ _ (⟨_, .pick _ _ _, _, _, _, _⟩ :: _)); (first | refine j_pick_t rfl rfl rfl ?_ | refine j_pick_f rfl rfl rfl ?_)) | (show J _ _ _ (runS _ _ _ _ (⟨_, .extract _ _, _, _, _, _⟩ :: _)); refine j_extract rfl rfl rfl ?_)) | refine j_nil ?_ | (show J _ _ _ (runS _ _ _ _ (⟨_, _, _, _, _, some _⟩ :: _)); first | refine j_gno_u rfl rfl rfl rfl ?_ | refine j_gyes rfl rfl rfl ?_ | refine j_gsplit_dec rfl rfl (fun h => ?_) (fun h => ?_)) | (show J _ _ _ (Code.wp _ _ _); first | refine j_seq ?_ | refine j_region ?_ | (show J _ _ _ (Code.wp _ (.cond _ _ _) _); (refine j_true rfl ?_)) | refine j_ret ?_) | refine j_then ?_ | refine j_then_ret ?_)
  · exfalso; omega
  · exfalso; omega
  ((try rw [cells_is t]); refine j_loads [.int .i64 (kindI t), .int .i64 (numI t), .string (strI t), .slice (adI t) (lsI t).length (cpI t)] rfl rfl rfl (by repeat constructor) ⟨rfl, rfl, rfl, rfl, trivial⟩ rfl ?_; rw [← cells_is t])
  repeat' ((show J _ _ _ (runS _ _ _ _ (⟨_, _, _, _, _, some _⟩ :: _)); (refine j_gyes rfl rfl rfl ?_)))
  (refine j_call rfl rfl (atexts_spec (cntI t) t (Nat.le_refl _) (by omega) (blk b 64 (cellsI t) :: Lp) hv.cons) (.refl) rfl (fun v M N h hN => ?_); obtain ⟨rfl, rfl⟩ := h; (try simp only [List.nil_append, List.cons_append, List.append_assoc] at hN); subst hN)
  repeat' (first | (show J _ _ _ (runS _ _ _ _ (⟨_, _, _, _, _, none⟩ :: _)); first | (show J _ _ _ (runS _ _ _ _ (⟨_, .assign _, _, _, _, _⟩ :: _)); refine j_assign rfl rfl ?_) | (show J _ _ _ (runS _ _ _ _ (⟨_, .pick _ _ _, _, _, _, _⟩ :: _)); ((refine j_pick_f rfl rfl rfl ?_)))) | refine j_nil ?_ | (show J _ _ _ (Code.wp _ _ _); first | refine j_seq ?_ | refine j_region ?_ | (show J _ _ _ (Code.wp _ (.cond _ _ _) _); (refine j_bool rfl (fun h => ?_) (fun h => ?_))) | refine j_ret ?_ | refine j_skip ?_) | refine j_then ?_ | refine j_then_ret ?_)
  · exact j_ret2 (M := Lp) rfl rfl rfl (by repeat (first | exact .refl | refine .drop ?_)) (.inl ⟨by assumption, rfl, rfl⟩)
  have hbig : bigT t = false := by
    cases hb : bigT t with
    | false => rfl
    | true => exact absurd hb (by (intro k; simp_all))
  have hlen := enc_small t hbig
  ((try rw [cells_is t]); refine j_loads [.int .i64 (kindI t), .int .i64 (numI t), .string (strI t), .slice (adI t) (lsI t).length (cpI t)] rfl rfl rfl (by repeat constructor) ⟨rfl, rfl, rfl, rfl, trivial⟩ rfl ?_; rw [← cells_is t])
  repeat' (fail)
  (refine j_call rfl rfl (aformed_spec (cntI t) t (Nat.le_refl _) (by omega) (blk b 64 (cellsI t) :: Lp) hv.cons) (.refl) rfl (fun v M N h hN => ?_); obtain ⟨rfl, rfl⟩ := h; (try simp only [List.nil_append, List.cons_append, List.append_assoc] at hN); subst hN)
  repeat' (first | (show J _ _ _ (runS _ _ _ _ (⟨_, _, _, _, _, none⟩ :: _)); (show J _ _ _ (runS _ _ _ _ (⟨_, .unOp _ _ _, _, _, _, _⟩ :: _)); ((refine j_not_b rfl rfl ?_)))) | refine j_nil ?_ | (show J _ _ _ (Code.wp _ _ _); first | refine j_seq ?_ | refine j_region ?_ | (show J _ _ _ (Code.wp _ (.cond _ _ _) _); (refine j_false rfl ?_)) | refine j_skip ?_) | refine j_then ?_)
  ((try rw [cells_is t]); refine j_loads [.int .i64 (kindI t), .int .i64 (numI t), .string (strI t), .slice (adI t) (lsI t).length (cpI t)] rfl rfl rfl (by repeat constructor) ⟨rfl, rfl, rfl, rfl, trivial⟩ rfl ?_; rw [← cells_is t])
  repeat' (fail)
  have hl0 : ([] : List UInt8).length + (encV (plI t)).length ≤ 100000000 := by simp only [List.length_nil]; omega
  refine j_sl0 (α := UInt8) 5 none ?_
  (refine j_call rfl rfl (abytes_spec (cntI t) t (Nat.le_refl _) none 0 [] (blk b 64 (cellsI t) :: Lp) hv.cons hr hl0) (.refl) rfl (fun v M N h hN => ?_); obtain ⟨a7, c7, rfl, rfl⟩ := h; (try simp only [List.nil_append, List.cons_append, List.append_assoc] at hN); subst hN)
  rw [List.nil_append]
  repeat' (first | (show J _ _ _ (runS _ _ _ _ (⟨_, _, _, _, _, none⟩ :: _)); (show J _ _ _ (runS _ _ _ _ (⟨_, .assign _, _, _, _, _⟩ :: _)); refine j_assign rfl rfl ?_)) | refine j_nil ?_ | (show J _ _ _ (Code.wp _ _ _); (refine j_ret ?_)) | refine j_then ?_)
  exact j_ret2 (M := Sl 5 a7 c7 (encV (plI t)) :: Lp) rfl rfl rfl (by repeat (first | exact .refl | apply Pk.cons | refine .drop ?_ | constructor)) (.inr ⟨hbig, a7, c7, rfl, rfl⟩)
end Go.Proofs.Ytnmfpgfgjjmfhaa
end

