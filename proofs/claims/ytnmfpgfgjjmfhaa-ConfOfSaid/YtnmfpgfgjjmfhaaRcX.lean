/- Merged: Rc1 Rc2 Rc3 Rc4 Rc5 Rc6 Rc7 Rc8 Rc9 RcA -/
import Derived.Test.YtnmfpgfgjjmfhaaRbX
section
set_option linter.unusedVariables false
set_option linter.unusedSimpArgs false
set_option maxRecDepth 100000
namespace Go.Proofs.Ytnmfpgfgjjmfhaa
open Go
attribute [local irreducible] Exit.then Exit.inBlock Code.wp runS bodyPost postF J runT cutQ cutR Tr Sat blk Sl Old Star Ex Pu
attribute [local irreducible] ItH ItHL
def rdR (rb : Nat) (a : Option Addr) (c : Nat) (ls : List UInt8) (pos : Nat) (left : Int) (bad : Bool) : HP := blk rb 110 [.slice a ls.length c, .int .i64 (pos : Nat), .int .i64 left, .bool bad]
instance (rb : Nat) (a : Option Addr) (c : Nat) (ls : List UInt8) (pos : Nat) (left : Int) (bad : Bool) : Loc (rdR rb a c ls pos left bad) := inferInstanceAs (Loc (blk _ _ _))
theorem cbyte_spec (rb : Nat) (a : Option Addr) (c : Nat) (ls : List UInt8) (hc : ls.length ≤ c) (hL : ls.length ≤ 9223372036854775807) (pos : Nat) (hp : pos ≤ ls.length) (left : Int) (Lp : List HP) (hv : Sees Lp (fun w => Vw w a ls)) :
    Tr Try.prog 90 [.pointer (some ⟨rb, 0, none⟩)] (rdR rb a c ls pos left false :: Lp)
      (fun v M => ∃ (x : Nat) (pos' : Nat) (bad : Bool), v = .int .i64 (x : Nat) ∧ x < 256 ∧ pos ≤ pos' ∧ pos' ≤ ls.length ∧ (bad = false → ∃ h : pos < ls.length, x = ls[pos].toNat ∧ pos' = pos + 1) ∧ (bad = true → pos = ls.length ∧ x = 0) ∧ M = rdR rb a c ls pos' left bad :: Lp) := by
  refine tr_enter Try.func90 rfl Try.ntmps90 rfl (fun F => ?_)
  unfold rdR
  repeat' (first | (show J _ _ _ (runS _ _ _ _ (⟨_, _, _, _, _, none⟩ :: _)); first | (show J _ _ _ (runS _ _ _ _ (⟨_, .move _, _, _, _, _⟩ :: _)); refine j_move rfl rfl ?_) | (show J _ _ _ (runS _ _ _ _ (⟨_, .load _ _, _, _, _, _⟩ :: _)); ((refine j_load rfl rfl (by repeat constructor) rfl rfl ?_))) | (show J _ _ _ (runS _ _ _ _ (⟨_, .fieldAddr _ _ _, _, _, _, _⟩ :: _)); refine j_fieldAddr rfl rfl ?_) | (show J _ _ _ (runS _ _ _ _ (⟨_, .nilCheck _, _, _, _, _⟩ :: _)); ((refine j_nilCheck rfl rfl ?_))) | (show J _ _ _ (runS _ _ _ _ (⟨_, .binOp _ _ _ _ _, _, _, _, _⟩ :: _)); (first | refine j_add rfl rfl (by omega) rfl ?_ | refine j_sub_ rfl rfl (by omega) rfl ?_ | refine j_bin rfl rfl rfl rfl ?_)) | (show J _ _ _ (runS _ _ _ _ (⟨_, .assign _, _, _, _, _⟩ :: _)); refine j_assign rfl rfl ?_) | (show J _ _ _ (runS _ _ _ _ (⟨_, .store _ _ _, _, _, _, _⟩ :: _)); ((refine j_set rfl rfl rfl (by rfl) (by repeat constructor) (by repeat constructor) ?_))) | (show J _ _ _ (runS _ _ _ _ (⟨_, .pick _ _ _, _, _, _, _⟩ :: _)); ((refine j_pick_f rfl rfl rfl ?_))) | (show J _ _ _ (runS _ _ _ _ (⟨_, .call ⟨.builtin .len, _, _⟩, _, _, _, _⟩ :: _)); ((refine j_len rfl rfl ?_)))) | refine j_nil ?_ | (show J _ _ _ (runS _ _ _ _ (⟨_, _, _, _, _, some _⟩ :: _)); (refine j_gyes rfl rfl rfl ?_)) | (show J _ _ _ (Code.wp _ _ _); first | refine j_seq ?_ | refine j_region ?_ | (show J _ _ _ (Code.wp _ (.cond _ _ _) _); (refine j_dec rfl (fun h => ?_) (fun h => ?_))) | refine j_ret ?_ | refine j_skip ?_ | refine j_draw (by decide +kernel) ?_) | refine j_then ?_ | refine j_then_ret ?_)
  · have hp2 : pos = ls.length := by omega
    exact j_ret1 (M := blk rb 110 [.slice a ls.length c, .int .i64 (pos : Nat), .int .i64 left, .bool true] :: Lp) rfl rfl (by repeat ((exact .refl))) ⟨0, pos, true, rfl, by decide, Nat.le_refl _, hp, fun h => (by cases h), fun _ => ⟨hp2, rfl⟩, rfl⟩
  have hlt : pos < ls.length := by omega
  refine j_idx (α := UInt8) (M := Lp) rfl rfl (by repeat (first | exact .refl | refine .drop ?_)) hv rfl pos (by omega) hlt rfl (fun b3 o3 ha3 hc3 => ?_)
  refine j_loadv (M := Lp) (v := .int .u8 (ls[pos].toNat : Nat)) rfl rfl (by repeat (first | exact .refl | refine .drop ?_)) (hc3 0 _ rfl) rfl ?_
  have hk8 := ls[pos].toNat_lt
  have hk := wrap64_id (x := (ls[pos].toNat : Int)) (by omega)
  repeat' (first | (show J _ _ _ (runS _ _ _ _ (⟨_, _, _, _, _, none⟩ :: _)); first | (show J _ _ _ (runS _ _ _ _ (⟨_, .assign _, _, _, _, _⟩ :: _)); refine j_assign rfl rfl ?_) | (show J _ _ _ (runS _ _ _ _ (⟨_, .convert _ _ _, _, _, _, _⟩ :: _)); refine j_conv rfl rfl ?_)) | refine j_nil ?_ | (show J _ _ _ (Code.wp _ _ _); (refine j_ret ?_)) | refine j_then ?_)
  rw [hk]
  exact j_ret1 (M := blk rb 110 [.slice a ls.length c, .int .i64 ((pos + 1 : Nat) : Int), .int .i64 left, .bool false] :: Lp) rfl rfl (by repeat ((exact .refl))) ⟨ls[pos].toNat, pos + 1, false, rfl, hk8, by omega, hlt, fun _ => ⟨hlt, rfl, rfl⟩, fun h => (by cases h), rfl⟩
end Go.Proofs.Ytnmfpgfgjjmfhaa
end

section
set_option linter.unusedVariables false
set_option linter.unusedSimpArgs false
set_option maxRecDepth 100000
namespace Go.Proofs.Ytnmfpgfgjjmfhaa
open Go
attribute [local irreducible] Exit.then Exit.inBlock Code.wp runS bodyPost postF J runT cutQ cutR Tr Sat blk Sl Old Star Ex Pu
attribute [local irreducible] ItH ItHL
def GoodC (ls : List UInt8) (pos k i m p : Nat) : Prop := ∃ h : pos < ls.length, k = ls[pos].toNat ∧ p = pos + 1 + i ∧ m = beN ((ls.drop (pos + 1)).take i) ∧ (0 < i → k ≤ 8 ∧ (ls.drop (pos + 1)).head? ≠ some 0)
theorem cntP_at {ls : List UInt8} {pos : Nat} (h : pos < ls.length) : cntP (ls.drop pos) = if 8 < ls[pos].toNat ∨ (ls.drop (pos + 1)).length < ls[pos].toNat ∨ ((ls.drop (pos + 1)).take ls[pos].toNat).head? = some 0 then none else some (beN ((ls.drop (pos + 1)).take ls[pos].toNat), (ls.drop (pos + 1)).drop ls[pos].toNat) := by
  rw [List.drop_eq_getElem_cons h, cntP]
theorem head_take {l : List UInt8} {k : Nat} (h : 0 < k) : (l.take k).head? = l.head? := by
  cases l with
  | nil => simp
  | cons x l => cases k with
    | zero => omega
    | succ k => simp
theorem GoodC.start {ls : List UInt8} {pos k p : Nat} (h : ∃ h : pos < ls.length, k = ls[pos].toNat ∧ p = pos + 1) : GoodC ls pos k 0 0 p := by
  obtain ⟨h, h1, h2⟩ := h
  exact ⟨h, h1, h2, by simp [beN], fun h => absurd h (by omega)⟩
theorem GoodC.done {ls : List UInt8} {pos k m p : Nat} (h : GoodC ls pos k k m p) (hp : p ≤ ls.length) : cntP (ls.drop pos) = some (m, ls.drop p) := by
  obtain ⟨h, h1, h2, h3, h4⟩ := h
  rw [cntP_at h, ← h1, if_neg, h3, List.drop_drop, h2]
  rintro (h5 | h5 | h5)
  · have := (h4 (by omega)).1; omega
  · rw [List.length_drop] at h5; omega
  · by_cases hk : 0 < k
    · rw [head_take hk] at h5
      exact (h4 hk).2 h5
    · rw [show k = 0 from by omega] at h5
      simp at h5
theorem GoodC.short {ls : List UInt8} {pos k i m p : Nat} (h : GoodC ls pos k i m p) (hi : i < k) (hp : p = ls.length) : cntP (ls.drop pos) = none := by
  obtain ⟨h, h1, h2, h3, h4⟩ := h
  rw [cntP_at h, ← h1, if_pos]
  refine .inr (.inl ?_)
  rw [List.length_drop]; omega
theorem GoodC.big {ls : List UInt8} {pos k i m p : Nat} (h : GoodC ls pos k i m p) (hk : 8 < k) : cntP (ls.drop pos) = none := by
  obtain ⟨h, h1, h2, h3, h4⟩ := h
  rw [cntP_at h, ← h1, if_pos (.inl hk)]
theorem GoodC.zero {ls : List UInt8} {pos k m p : Nat} (h : GoodC ls pos k 0 m p) (hi : 0 < k) (hp : ∃ h : p < ls.length, (0 : Nat) = ls[p].toNat) : cntP (ls.drop pos) = none := by
  obtain ⟨h, h1, h2, h3, h4⟩ := h
  obtain ⟨hp, h5⟩ := hp
  rw [cntP_at h, ← h1, if_pos]
  refine .inr (.inr ?_)
  have h2 : p = pos + 1 := h2
  subst h2
  rw [head_take hi, List.drop_eq_getElem_cons hp]
  simp only [List.head?_cons, Option.some.injEq]
  exact UInt8.toNat_inj.1 h5.symm
theorem GoodC.step {ls : List UInt8} {pos k i m p x : Nat} (h : GoodC ls pos k i m p) (hk : k ≤ 8) (hx : ∃ h : p < ls.length, x = ls[p].toNat) (h0 : i = 0 → x ≠ 0) : GoodC ls pos k (i + 1) (m * 256 + x) (p + 1) := by
  obtain ⟨h, h1, h2, h3, h4⟩ := h
  obtain ⟨hp, h5⟩ := hx
  have hget : (ls.drop (pos + 1))[i]? = some ls[p] := by
    rw [List.getElem?_drop, ← h2, List.getElem?_eq_getElem hp]
  refine ⟨h, h1, by omega, ?_, fun _ => ⟨hk, ?_⟩⟩
  · rw [List.take_add_one, hget]
    show _ = beN ((ls.drop (pos + 1)).take i ++ [ls[p]])
    rw [beN_snoc, h3, h5]
  · by_cases hi : i = 0
    · subst hi
      rw [List.head?_eq_getElem?, hget]
      intro h6
      simp only [Option.some.injEq] at h6
      rw [h5, h6] at h0
      exact h0 rfl rfl
    · exact (h4 (by omega)).2
theorem GoodC.lt {ls : List UInt8} {pos k i m p : Nat} (h : GoodC ls pos k i m p) (hk : k ≤ 8) (hi : i < k) : m < 256 ^ 7 := by
  obtain ⟨h, h1, h2, h3, h4⟩ := h
  rw [h3]
  refine Nat.lt_of_lt_of_le (beN_lt _) (Nat.pow_le_pow_right (by omega) ?_)
  rw [List.length_take]; omega
theorem u64_step (m x : Nat) (hx : x < 256) : ∃ m' : Nat, m' < 18446744073709551616 ∧ IntKind.u64.wrap (IntKind.u64.wrap ((m : Int) * 256) + IntKind.u64.wrap (x : Int)) = (m' : Int) ∧ (m < 256 ^ 7 → m' = m * 256 + x) := by
  refine ⟨(m * 256 + x) % 18446744073709551616, by omega, ?_, fun h => by omega⟩
  unfold IntKind.wrap
  simp [IntKind.signed, IntKind.bits]
theorem ccount_spec (rb : Nat) (a : Option Addr) (c : Nat) (ls : List UInt8) (hc : ls.length ≤ c) (hL : ls.length ≤ 9223372036854775807) (pos : Nat) (hp : pos ≤ ls.length) (left : Int) (Lp : List HP) (hv : Sees Lp (fun w => Vw w a ls)) :
    Tr Try.prog 91 [.pointer (some ⟨rb, 0, none⟩)] (rdR rb a c ls pos left false :: Lp)
      (fun v M => ∃ (m : Nat) (pos' : Nat) (bad : Bool), v = .int .u64 (m : Nat) ∧ m < 18446744073709551616 ∧ pos ≤ pos' ∧ pos' ≤ ls.length ∧ (bad = false → cntP (ls.drop pos) = some (m, ls.drop pos')) ∧ (bad = true → cntP (ls.drop pos) = none) ∧ M = rdR rb a c ls pos' left bad :: Lp) := by
  refine tr_enter Try.func91 rfl Try.ntmps91 rfl (fun F => ?_)
  repeat' (first | (show J _ _ _ (runS _ _ _ _ (⟨_, _, _, _, _, none⟩ :: _)); first | (show J _ _ _ (runS _ _ _ _ (⟨_, .move _, _, _, _, _⟩ :: _)); refine j_move rfl rfl ?_) | (show J _ _ _ (runS _ _ _ _ (⟨_, .assign _, _, _, _, _⟩ :: _)); refine j_assign rfl rfl ?_)) | refine j_nil ?_ | (show J _ _ _ (Code.wp _ _ _); first | refine j_seq ?_ | refine j_region ?_) | refine j_then ?_)
  (refine j_call rfl rfl (cbyte_spec rb a c ls hc hL pos hp left Lp hv) (.refl) rfl (fun v M N h hN => ?_); obtain ⟨k, p1, bd, rfl, hk, hpp, hpl, hgood, hbad, rfl⟩ := h; (try simp only [List.nil_append, List.cons_append, List.append_assoc] at hN); subst hN)
  repeat' (first | (show J _ _ _ (runS _ _ _ _ (⟨_, _, _, _, _, none⟩ :: _)); (show J _ _ _ (runS _ _ _ _ (⟨_, .assign _, _, _, _, _⟩ :: _)); refine j_assign rfl rfl ?_)) | refine j_nil ?_ | (show J _ _ _ (Code.wp _ _ _); first | refine j_seq ?_ | refine j_region ?_ | refine j_block ?_) | refine j_then ?_)
  refine j_loop (X := { q : Nat × Nat × Nat × Bool // q.1 ≤ k ∧ q.2.1 < 18446744073709551616 ∧ pos ≤ q.2.2.1 ∧ q.2.2.1 ≤ ls.length ∧ (q.2.2.2 = false → GoodC ls pos k q.1 q.2.1 q.2.2.1) ∧ (q.2.2.2 = true → cntP (ls.drop pos) = none) }) (fun q => [(0, .pointer (some ⟨rb, 0, none⟩)), (3, .int .i64 (k : Nat)), (4, .int .u64 (q.1.2.1 : Nat)), (5, .int .i64 (q.1.1 : Nat))]) (fun q => rdR rb a c ls q.1.2.2.1 left q.1.2.2.2 :: (Lp ++ F)) (fun q => k - q.1.1) ⟨(0, 0, p1, bd), by dsimp only; omega, (by dsimp only; omega), hpp, hpl, fun h => .start (by obtain ⟨h1, h2, h3⟩ := hgood h; exact ⟨h1, h2, h3⟩), fun h => (by
    rw [(hbad h).1, List.drop_length]; rfl)⟩ ⟨rfl, rfl, rfl, rfl, trivial⟩ .refl (fun q => ?_)
  obtain ⟨⟨i, m, p, bd⟩, hi, hm, hp1, hp2, hg, hn⟩ := q
  dsimp only at hi hm hp1 hp2 hg hn ⊢
  unfold rdR
  repeat' (first | (show J _ _ _ (runS _ _ _ _ (⟨_, _, _, _, _, none⟩ :: _)); first | (show J _ _ _ (runS _ _ _ _ (⟨_, .move _, _, _, _, _⟩ :: _)); refine j_move rfl rfl ?_) | (show J _ _ _ (runS _ _ _ _ (⟨_, .load _ _, _, _, _, _⟩ :: _)); ((refine j_load rfl rfl (by repeat constructor) rfl rfl ?_))) | (show J _ _ _ (runS _ _ _ _ (⟨_, .fieldAddr _ _ _, _, _, _, _⟩ :: _)); refine j_fieldAddr rfl rfl ?_) | (show J _ _ _ (runS _ _ _ _ (⟨_, .nilCheck _, _, _, _, _⟩ :: _)); ((refine j_nilCheck rfl rfl ?_))) | (show J _ _ _ (runS _ _ _ _ (⟨_, .binOp _ _ _ _ _, _, _, _, _⟩ :: _)); ((refine j_bin rfl rfl rfl rfl ?_))) | (show J _ _ _ (runS _ _ _ _ (⟨_, .assign _, _, _, _, _⟩ :: _)); refine j_assign rfl rfl ?_) | (show J _ _ _ (runS _ _ _ _ (⟨_, .pick _ _ _, _, _, _, _⟩ :: _)); (first | refine j_pick_t rfl rfl rfl ?_ | refine j_pick_f rfl rfl rfl ?_)) | (show J _ _ _ (runS _ _ _ _ (⟨_, .unOp _ _ _, _, _, _, _⟩ :: _)); ((refine j_not_b rfl rfl ?_)))) | refine j_nil ?_ | (show J _ _ _ (runS _ _ _ _ (⟨_, _, _, _, _, some _⟩ :: _)); first | refine j_gno_u rfl rfl rfl rfl ?_ | refine j_gyes rfl rfl rfl ?_ | refine j_gsplit_dec rfl rfl (fun h => ?_) (fun h => ?_)) | (show J _ _ _ (Code.wp _ _ _); first | refine j_seq ?_ | refine j_region ?_ | refine j_block ?_ | (show J _ _ _ (Code.wp _ (.cond _ _ _) _); first | refine j_false rfl ?_ | refine j_bool rfl (fun h => ?_) (fun h => ?_)) | refine j_ret ?_ | refine j_skip ?_ | refine j_exit ?_) | refine j_then ?_ | refine j_then_exit ?_ | refine j_inb_here ?_)
  · have hbd : bd = false := by cases bd <;> simp_all
    subst hbd
    have hg := hg rfl
    have hik : i < k := by omega
    (refine j_call rfl rfl (cbyte_spec rb a c ls hc hL p hp2 left Lp hv) (.refl) rfl (fun v M N h hN => ?_); obtain ⟨x, p3, b3, rfl, hx, hpp3, hpl3, hgood3, hbad3, rfl⟩ := h; (try simp only [List.nil_append, List.cons_append, List.append_assoc] at hN); subst hN)
    have hx64 := wrap64_id (x := (x : Int)) (by omega)
    have hxu := u64n (n := x) (by omega)
    have hn3 : b3 = true → cntP (ls.drop pos) = none := fun h => hg.short hik (hbad3 h).1
    repeat' (first | (show J _ _ _ (runS _ _ _ _ (⟨_, _, _, _, _, none⟩ :: _)); first | (show J _ _ _ (runS _ _ _ _ (⟨_, .move _, _, _, _, _⟩ :: _)); refine j_move rfl rfl ?_) | (show J _ _ _ (runS _ _ _ _ (⟨_, .fieldAddr _ _ _, _, _, _, _⟩ :: _)); refine j_fieldAddr rfl rfl ?_) | (show J _ _ _ (runS _ _ _ _ (⟨_, .nilCheck _, _, _, _, _⟩ :: _)); ((refine j_nilCheck rfl rfl ?_))) | (show J _ _ _ (runS _ _ _ _ (⟨_, .binOp _ _ _ _ _, _, _, _, _⟩ :: _)); (first | refine j_add rfl rfl (by omega) rfl ?_ | refine j_bin rfl rfl rfl rfl ?_)) | (show J _ _ _ (runS _ _ _ _ (⟨_, .assign _, _, _, _, _⟩ :: _)); refine j_assign rfl rfl ?_) | (show J _ _ _ (runS _ _ _ _ (⟨_, .store _ _ _, _, _, _, _⟩ :: _)); ((refine j_set rfl rfl rfl (by rfl) (by repeat constructor) (by repeat constructor) ?_))) | (show J _ _ _ (runS _ _ _ _ (⟨_, .pick _ _ _, _, _, _, _⟩ :: _)); (first | refine j_pick_t rfl rfl rfl ?_ | refine j_pick_f rfl rfl rfl ?_)) | (show J _ _ _ (runS _ _ _ _ (⟨_, .convert _ _ _, _, _, _, _⟩ :: _)); refine j_conv rfl rfl ?_)) | refine j_nil ?_ | (show J _ _ _ (runS _ _ _ _ (⟨_, _, _, _, _, some _⟩ :: _)); first | refine j_gno_u rfl rfl rfl rfl ?_ | refine j_gyes rfl rfl rfl ?_ | refine j_gsplit_dec rfl rfl (fun h => ?_) (fun h => ?_)) | (show J _ _ _ (Code.wp _ _ _); first | refine j_seq ?_ | refine j_region ?_ | (show J _ _ _ (Code.wp _ (.cond _ _ _) _); first | refine j_true rfl ?_ | refine j_dec rfl (fun h => ?_) (fun h => ?_)) | refine j_skip ?_) | refine j_then ?_ | refine j_inb ?_)
    all_goals
      obtain ⟨m', hm', hw', hmm⟩ := u64_step m x hx
      rw [hw']
      first
        | exact j_round ⟨(i + 1, m', p3, true), by dsimp only; omega, hm', by dsimp only; omega, hpl3, fun h => (by cases h), fun _ => (by
          cases b3 with
          | true => exact hn3 rfl
          | false =>
            first
              | exact hg.big (by omega)
              | exact (by
                  obtain rfl : i = 0 := by omega
                  obtain rfl : x = 0 := by omega
                  obtain ⟨h1, h2, h3⟩ := hgood3 rfl
                  exact hg.zero hik ⟨h1, h2⟩))⟩ (by dsimp only; omega) ⟨rfl, rfl, rfl, rfl, trivial⟩ .refl
        | exact j_round ⟨(i + 1, m', p3, b3), by dsimp only; omega, hm', by dsimp only; omega, hpl3, fun h => (by
          have h : b3 = false := h
          subst h
          obtain ⟨h1, h2, h3⟩ := hgood3 rfl
          have hk8 : k ≤ 8 := by omega
          have hx0 : i = 0 → x ≠ 0 := by omega
          show GoodC ls pos k (i + 1) m' p3
          rw [hmm (hg.lt hk8 hik), h3]
          exact hg.step hk8 ⟨h1, h2⟩ hx0), hn3⟩ (by dsimp only; omega) ⟨rfl, rfl, rfl, rfl, trivial⟩ .refl
  · have hbd : bd = true := by cases bd <;> simp_all
    subst hbd
    exact j_ret1 (M := rdR rb a c ls p left true :: Lp) rfl rfl .refl ⟨m, p, true, rfl, hm, hp1, hp2, fun h => (by cases h), hn, rfl⟩
  · have hik : i = k := by omega
    subst hik
    exact j_ret1 (M := rdR rb a c ls p left bd :: Lp) rfl rfl .refl ⟨m, p, bd, rfl, hm, hp1, hp2, fun h => (hg h).done hp2, hn, rfl⟩
end Go.Proofs.Ytnmfpgfgjjmfhaa
end

section
set_option linter.unusedVariables false
set_option linter.unusedSimpArgs false
set_option maxRecDepth 100000
namespace Go.Proofs.Ytnmfpgfgjjmfhaa
open Go
attribute [local irreducible] Exit.then Exit.inBlock Code.wp runS bodyPost postF J runT cutQ cutR Tr Sat blk Sl Old Star Ex Pu
attribute [local irreducible] ItH ItHL
structure RW where
  k : Int
  n : Int
  s : ByteArray
  a : Option Addr
  l : Nat
  c : Nat
instance : Enc RW := ⟨fun x => [.int .i64 x.k, .int .i64 x.n, .string x.s, .slice x.a x.l x.c], 4, fun _ => rfl, by decide, fun x u hu => by simp at hu; rcases hu with rfl | rfl | rfl | rfl <;> rfl⟩
def toRW (t : IA) : RW := ⟨kindI t, numI t, strI t, adI t, (lsI t).length, cpI t⟩
theorem enc_toRW (t : IA) : Enc.enc (toRW t) = cellsI t := by rw [cells_is t]; rfl
theorem sl_raw (T : TypeId) (a : Option Addr) (c : Nat) (ts : List IA) : Sl T a c (ts.map toRW) = Sl T a c ts := by
  unfold Sl
  rw [List.map_map]
  have : (Enc.enc (α := RW)) ∘ toRW = (Enc.enc (α := IA)) := funext fun t => enc_toRW t
  rw [this]
  rfl
def ItO : Option IA → HP
  | some t => ItH t
  | none => fun _ _ => True
def ItLO : Option (List IA) → HP
  | some t => ItHL t
  | none => fun _ _ => True
instance (o : Option IA) : Loc (ItO o) := by
  cases o with
  | none => exact ⟨fun _ _ _ => trivial⟩
  | some t => exact inferInstanceAs (Loc (ItH t))
instance (o : Option (List IA)) : Loc (ItLO o) := by
  cases o with
  | none => exact ⟨fun _ _ _ => trivial⟩
  | some t => exact inferInstanceAs (Loc (ItHL t))
theorem j_itO0 {n : Nat} {fm : Fm} {L : List HP} {X : Go.Act → World → Prop} (h : J n fm (ItO none :: L) X) : J n fm L X :=
  by unfold J at h ⊢; exact fun aa w hr hw => h aa w hr (hw.new (A' := ItO none) trivial (fun _ _ => rfl) (Kept0.refl w))
theorem j_itLO0 {n : Nat} {fm : Fm} {L : List HP} {X : Go.Act → World → Prop} (h : J n fm (ItLO none :: L) X) : J n fm L X :=
  by unfold J at h ⊢; exact fun aa w hr hw => h aa w hr (hw.new (A' := ItLO none) trivial (fun _ _ => rfl) (Kept0.refl w))
theorem itemP_at {d left pos : Nat} {ls : List UInt8} (h : pos < ls.length) : itemP (d + 1) (left + 1) (ls.drop pos) = if ls[pos] = 1 then (match cntP (ls.drop (pos + 1)) with
      | some (n, r) => some (.num (unzig n), left, r)
      | none => none)
    else if ls[pos] = 2 then (match sizeP 4096 (ls.drop (pos + 1)) with
      | some (n, r) => if n ≤ r.length then some (.txt ⟨(r.take n).toArray⟩, left, r.drop n) else none
      | none => none)
    else if ls[pos] = 3 then (match sizeP 4096 (ls.drop (pos + 1)) with
      | some (n, r) => (match itemsP (itemP d) n left r with
        | some (vs, l, r') => some (.lst vs, l, r')
        | none => none)
      | none => none)
    else none := by
  rw [List.drop_eq_getElem_cons h, itemP]
  rfl
def ItemR (d left : Nat) (ls : List UInt8) (pos : Nat) (x : RW) (o : Option IA) (pos' : Nat) (left' : Int) : Prop :=
  pos ≤ pos' ∧ pos' ≤ ls.length ∧ (∀ t, o = some t → x = toRW t ∧ ∃ l : Nat, left' = (l : Nat) ∧ l ≤ left ∧ itemP d left (ls.drop pos) = some (plI t, l, ls.drop pos')) ∧ (o = none → itemP d left (ls.drop pos) = none)
theorem ItemR.bad {d left : Nat} {ls : List UInt8} {pos : Nat} {x : RW} {pos' : Nat} {left' : Int} (h1 : pos ≤ pos') (h2 : pos' ≤ ls.length) (h : itemP d left (ls.drop pos) = none) : ItemR d left ls pos x none pos' left' :=
  ⟨h1, h2, fun t h => (by cases h), fun _ => h⟩
theorem ItemR.good {d left : Nat} {ls : List UInt8} {pos : Nat} {t : IA} {pos' l : Nat} (h1 : pos ≤ pos') (h2 : pos' ≤ ls.length) (hl : l ≤ left) (h : itemP d left (ls.drop pos) = some (plI t, l, ls.drop pos')) : ItemR d left ls pos (toRW t) (some t) pos' (l : Nat) :=
  ⟨h1, h2, fun t' h' => (by cases h'; exact ⟨rfl, l, rfl, hl, h⟩), fun h => (by cases h)⟩
theorem unz_even (m : Nat) (hm : m < 18446744073709551616) (h : ¬ ((m : Int).tmod 2 = 1)) : IntKind.i64.wrap (IntKind.u64.wrap ((m : Int).tdiv 2)) = unzig m := by
  have e1 : (m : Int).tdiv 2 = ((m / 2 : Nat) : Int) := rfl
  have e2 : (m : Int).tmod 2 = ((m % 2 : Nat) : Int) := rfl
  rw [e2] at h
  rw [e1, u64n (by omega), wrap64_id (by omega)]
  unfold unzig
  rw [if_pos (by omega)]
theorem unz_odd (m : Nat) (hm : m < 18446744073709551616) (h : (m : Int).tmod 2 = 1) : IntKind.i64.wrap (IntKind.i64.wrap (0 - IntKind.i64.wrap (IntKind.u64.wrap ((m : Int).tdiv 2))) - 1) = unzig m := by
  have e1 : (m : Int).tdiv 2 = ((m / 2 : Nat) : Int) := rfl
  have e2 : (m : Int).tmod 2 = ((m % 2 : Nat) : Int) := rfl
  rw [e2] at h
  rw [e1, u64n (by omega), wrap64_id (x := ((m / 2 : Nat) : Int)) (by omega), wrap64_id (x := 0 - ((m / 2 : Nat) : Int)) (by omega), wrap64_id (by omega)]
  unfold unzig
  rw [if_neg (by omega)]
  omega
theorem szP_big {ls r : List UInt8} {m : Nat} (h : cntP ls = some (m, r)) (hm : 4096 < m) : sizeP 4096 ls = none := by
  rw [sizeP, h]
  exact if_neg (by omega)
theorem szP_ok {ls r : List UInt8} {m : Nat} (h : cntP ls = some (m, r)) (hm : m ≤ 4096) : sizeP 4096 ls = some (m, r) := by
  rw [sizeP, h]
  exact if_pos hm
theorem txtNo {d left pos p2 m : Nat} {ls : List UInt8} (hlt : pos < ls.length) (hk : ls[pos] = 2) (h : cntP (ls.drop (pos + 1)) = some (m, ls.drop p2)) (hm : m ≤ 4096) (hs : ls.length - p2 < m) : itemP (d + 1) (left + 1) (ls.drop pos) = none := by
  rw [itemP_at hlt, hk, if_neg (by decide), if_pos rfl, szP_ok h hm]
  exact if_neg (by rw [List.length_drop]; omega)
theorem txtYes {d left pos p2 m : Nat} {ls : List UInt8} (hlt : pos < ls.length) (hk : ls[pos] = 2) (h : cntP (ls.drop (pos + 1)) = some (m, ls.drop p2)) (hm : m ≤ 4096) (hs : m ≤ ls.length - p2) : itemP (d + 1) (left + 1) (ls.drop pos) = some (plI (.txt ⟨((ls.drop p2).take m).toArray⟩ none 0), left, ls.drop (p2 + m)) := by
  rw [itemP_at hlt, hk, if_neg (by decide), if_pos rfl, szP_ok h hm, plI, ← List.drop_drop]
  exact if_pos (by rw [List.length_drop]; omega)
structure CS where
  i : Nat
  p : Nat
  lf : Int
  rs : List RW
  a : Option Addr
  c : Nat
  o : Option (List IA)
def CInv (b2 : Bool) (d left m pos p2 : Nat) (ls : List UInt8) (s : CS) : Prop :=
  s.i ≤ m ∧ s.rs.length = s.i ∧ p2 ≤ s.p ∧ s.p ≤ ls.length ∧ (∀ ts, s.o = some ts → b2 = false ∧ m ≤ 4096 ∧ s.rs = ts.map toRW ∧ ∃ l : Nat, s.lf = (l : Nat) ∧ l ≤ left ∧ itemsP (itemP d) m left (ls.drop p2) = contP ts (itemsP (itemP d) (m - s.i) l (ls.drop s.p))) ∧ (s.o = none → itemP (d + 1) (left + 1) (ls.drop pos) = none)
theorem j_itLOq {n : Nat} {fm : Fm} {L : List HP} {X : Go.Act → World → Prop} (q : Bool) (h : J n fm (ItLO (if q then none else some []) :: L) X) : J n fm L X := by
  cases q with
  | true => exact j_itLO0 h
  | false => exact j_itL0 h
theorem citem_spec (rb : Nat) (a : Option Addr) (c : Nat) (ls : List UInt8) (hc : ls.length ≤ c) (hL : ls.length ≤ 9223372036854775807) : ∀ (d deep : Nat), d + deep = 13 → ∀ (left : Nat), left ≤ 4096 → ∀ (pos : Nat), pos ≤ ls.length → ∀ (Lp : List HP), Sees Lp (fun w => Vw w a ls) →
    Tr Try.prog 70 [.pointer (some ⟨rb, 0, none⟩), .int .i64 (deep : Nat)] (rdR rb a c ls pos (left : Nat) false :: Lp)
      (fun v M => ∃ (x : RW) (o : Option IA) (pos' : Nat) (left' : Int), v = .agg (Enc.enc x).toArray ∧ ItemR d left ls pos x o pos' left' ∧ M = rdR rb a c ls pos' left' o.isNone :: ItO o :: Lp) := by
  intro d
  induction d with
  | zero =>
    intro deep hd left hl pos hp Lp hv
    refine tr_enter Try.func70 rfl Try.ntmps70 rfl (fun F => ?_)
    unfold rdR
    repeat' (first | (show J _ _ _ (runS _ _ _ _ (⟨_, _, _, _, _, none⟩ :: _)); first | (show J _ _ _ (runS _ _ _ _ (⟨_, .move _, _, _, _, _⟩ :: _)); refine j_move rfl rfl ?_) | (show J _ _ _ (runS _ _ _ _ (⟨_, .load _ _, _, _, _, _⟩ :: _)); ((refine j_load rfl rfl (by repeat constructor) rfl rfl ?_))) | (show J _ _ _ (runS _ _ _ _ (⟨_, .fieldAddr _ _ _, _, _, _, _⟩ :: _)); refine j_fieldAddr rfl rfl ?_) | (show J _ _ _ (runS _ _ _ _ (⟨_, .nilCheck _, _, _, _, _⟩ :: _)); ((refine j_nilCheck rfl rfl ?_))) | (show J _ _ _ (runS _ _ _ _ (⟨_, .binOp _ _ _ _ _, _, _, _, _⟩ :: _)); (first | refine j_sub_ rfl rfl (by omega) rfl ?_ | refine j_bin rfl rfl rfl rfl ?_)) | (show J _ _ _ (runS _ _ _ _ (⟨_, .store _ _ _, _, _, _, _⟩ :: _)); (first | refine j_set rfl rfl rfl (by rfl) (by repeat constructor) (by repeat constructor) ?_ | refine j_sets rfl rfl rfl (by rfl) (by repeat constructor) (by repeat constructor) (by rfl) ?_)) | (show J _ _ _ (runS _ _ _ _ (⟨_, .pick _ _ _, _, _, _, _⟩ :: _)); (first | refine j_pick_t rfl rfl rfl ?_ | refine j_pick_f rfl rfl rfl ?_)) | (show J _ _ _ (runS _ _ _ _ (⟨_, .build _ _, _, _, _, _⟩ :: _)); refine j_build rfl (by repeat constructor) rfl ?_) | (show J _ _ _ (runS _ _ _ _ (⟨_, .alloc _, _, _, _, _⟩ :: _)); refine j_alloc rfl (fun b => ?_))) | refine j_nil ?_ | (show J _ _ _ (runS _ _ _ _ (⟨_, _, _, _, _, some _⟩ :: _)); first | refine j_gno_u rfl rfl rfl rfl ?_ | refine j_gyes rfl rfl rfl ?_ | refine j_gsplit_dec rfl rfl (fun h => ?_) (fun h => ?_)) | (show J _ _ _ (Code.wp _ _ _); first | refine j_seq ?_ | refine j_region ?_ | (show J _ _ _ (Code.wp _ (.cond _ _ _) _); first | refine j_true rfl ?_ | refine j_false rfl ?_ | refine j_dec rfl (fun h => ?_) (fun h => ?_)) | refine j_ret ?_ | refine j_skip ?_) | refine j_then ?_ | refine j_then_ret ?_)
    · refine j_itO0 ?_
      exact j_retc [.int .i64 0, .int .i64 0, .string ⟨#[]⟩, .slice none 0 0] rfl rfl rfl (by repeat constructor) rfl ⟨rfl, rfl, rfl, rfl, trivial⟩ (M := rdR rb a c ls pos ((left : Int) - 1) true :: ItO none :: Lp) (by repeat (first | exact .refl | apply Pk.cons | refine .drop ?_ | constructor)) ⟨⟨0, 0, ⟨#[]⟩, none, 0, 0⟩, none, pos, _, rfl, .bad (Nat.le_refl _) hp rfl, rfl⟩
    · refine j_itO0 ?_
      exact j_retc [.int .i64 0, .int .i64 0, .string ⟨#[]⟩, .slice none 0 0] rfl rfl rfl (by repeat constructor) rfl ⟨rfl, rfl, rfl, rfl, trivial⟩ (M := rdR rb a c ls pos ((left : Int) - 1) true :: ItO none :: Lp) (by repeat (first | exact .refl | apply Pk.cons | refine .drop ?_ | constructor)) ⟨⟨0, 0, ⟨#[]⟩, none, 0, 0⟩, none, pos, _, rfl, .bad (Nat.le_refl _) hp rfl, rfl⟩
    · exfalso; omega
  | succ d ih =>
    intro deep hd left hl pos hp Lp hv
    refine tr_enter Try.func70 rfl Try.ntmps70 rfl (fun F => ?_)
    unfold rdR
    repeat' (first | (show J _ _ _ (runS _ _ _ _ (⟨_, _, _, _, _, none⟩ :: _)); first | (show J _ _ _ (runS _ _ _ _ (⟨_, .move _, _, _, _, _⟩ :: _)); refine j_move rfl rfl ?_) | (show J _ _ _ (runS _ _ _ _ (⟨_, .load _ _, _, _, _, _⟩ :: _)); ((refine j_load rfl rfl (by repeat constructor) rfl rfl ?_))) | (show J _ _ _ (runS _ _ _ _ (⟨_, .fieldAddr _ _ _, _, _, _, _⟩ :: _)); refine j_fieldAddr rfl rfl ?_) | (show J _ _ _ (runS _ _ _ _ (⟨_, .nilCheck _, _, _, _, _⟩ :: _)); ((refine j_nilCheck rfl rfl ?_))) | (show J _ _ _ (runS _ _ _ _ (⟨_, .binOp _ _ _ _ _, _, _, _, _⟩ :: _)); (first | refine j_sub_ rfl rfl (by omega) rfl ?_ | refine j_bin rfl rfl rfl rfl ?_)) | (show J _ _ _ (runS _ _ _ _ (⟨_, .store _ _ _, _, _, _, _⟩ :: _)); (first | refine j_set rfl rfl rfl (by rfl) (by repeat constructor) (by repeat constructor) ?_ | refine j_sets rfl rfl rfl (by rfl) (by repeat constructor) (by repeat constructor) (by rfl) ?_)) | (show J _ _ _ (runS _ _ _ _ (⟨_, .pick _ _ _, _, _, _, _⟩ :: _)); (first | refine j_pick_t rfl rfl rfl ?_ | refine j_pick_f rfl rfl rfl ?_)) | (show J _ _ _ (runS _ _ _ _ (⟨_, .build _ _, _, _, _, _⟩ :: _)); refine j_build rfl (by repeat constructor) rfl ?_) | (show J _ _ _ (runS _ _ _ _ (⟨_, .alloc _, _, _, _, _⟩ :: _)); refine j_alloc rfl (fun b => ?_))) | refine j_nil ?_ | (show J _ _ _ (runS _ _ _ _ (⟨_, _, _, _, _, some _⟩ :: _)); first | refine j_gno_u rfl rfl rfl rfl ?_ | refine j_gyes rfl rfl rfl ?_ | refine j_gsplit_dec rfl rfl (fun h => ?_) (fun h => ?_)) | (show J _ _ _ (Code.wp _ _ _); first | refine j_seq ?_ | refine j_region ?_ | (show J _ _ _ (Code.wp _ (.cond _ _ _) _); first | refine j_true rfl ?_ | refine j_false rfl ?_ | refine j_dec rfl (fun h => ?_) (fun h => ?_)) | refine j_ret ?_ | refine j_skip ?_) | refine j_then ?_ | refine j_then_ret ?_)
    · have h0 : left = 0 := by omega
      subst h0
      refine j_itO0 ?_
      exact j_retc [.int .i64 0, .int .i64 0, .string ⟨#[]⟩, .slice none 0 0] rfl rfl rfl (by repeat constructor) rfl ⟨rfl, rfl, rfl, rfl, trivial⟩ (M := rdR rb a c ls pos (((0 : Nat) : Int) - 1) true :: ItO none :: Lp) (by repeat (first | exact .refl | apply Pk.cons | refine .drop ?_ | constructor)) ⟨⟨0, 0, ⟨#[]⟩, none, 0, 0⟩, none, pos, _, rfl, .bad (Nat.le_refl _) hp rfl, rfl⟩
    · exfalso; omega
    obtain ⟨b4, hb4⟩ : ∃ b', b' = b := ⟨_, rfl⟩
    subst hb4
    match left, (show 0 < left by omega), hl with
    | left + 1, _, hl =>
    rw [show ((left + 1 : Nat) : Int) - 1 = (left : Int) from by omega]
    (refine j_call rfl rfl (cbyte_spec rb a c ls hc hL pos hp (left : Nat) (blk b4 64 [.int .i64 0, .int .i64 0, .string ⟨#[]⟩, .slice none 0 0] :: Lp) hv.cons) ((by repeat (first | exact .refl | apply Pk.cons | constructor))) rfl (fun v M N h hN => ?_); obtain ⟨k, p1, bd, rfl, hk, hpp, hpl, hgood, hbad, rfl⟩ := h; (try simp only [List.nil_append, List.cons_append, List.append_assoc] at hN); subst hN)
    repeat' (first | (show J _ _ _ (runS _ _ _ _ (⟨_, _, _, _, _, none⟩ :: _)); first | (show J _ _ _ (runS _ _ _ _ (⟨_, .move _, _, _, _, _⟩ :: _)); refine j_move rfl rfl ?_) | (show J _ _ _ (runS _ _ _ _ (⟨_, .load _ _, _, _, _, _⟩ :: _)); ((refine j_load rfl rfl (by repeat constructor) rfl rfl ?_))) | (show J _ _ _ (runS _ _ _ _ (⟨_, .fieldAddr _ _ _, _, _, _, _⟩ :: _)); refine j_fieldAddr rfl rfl ?_) | (show J _ _ _ (runS _ _ _ _ (⟨_, .nilCheck _, _, _, _, _⟩ :: _)); ((refine j_nilCheck rfl rfl ?_))) | (show J _ _ _ (runS _ _ _ _ (⟨_, .binOp _ _ _ _ _, _, _, _, _⟩ :: _)); ((refine j_bin rfl rfl rfl rfl ?_))) | (show J _ _ _ (runS _ _ _ _ (⟨_, .assign _, _, _, _, _⟩ :: _)); refine j_assign rfl rfl ?_) | (show J _ _ _ (runS _ _ _ _ (⟨_, .store _ _ _, _, _, _, _⟩ :: _)); (first | refine j_set rfl rfl rfl (by rfl) (by repeat constructor) (by repeat constructor) ?_ | refine j_sets rfl rfl rfl (by rfl) (by repeat constructor) (by repeat constructor) (by rfl) ?_)) | (show J _ _ _ (runS _ _ _ _ (⟨_, .build _ _, _, _, _, _⟩ :: _)); refine j_build rfl (by repeat constructor) rfl ?_) | (show J _ _ _ (runS _ _ _ _ (⟨_, .alloc _, _, _, _, _⟩ :: _)); refine j_alloc rfl (fun b => ?_))) | refine j_nil ?_ | (show J _ _ _ (Code.wp _ _ _); first | refine j_seq ?_ | refine j_region ?_ | refine j_block ?_ | (show J _ _ _ (Code.wp _ (.cond _ _ _) _); (refine j_dec rfl (fun h => ?_) (fun h => ?_)))) | refine j_then ?_ | refine j_inb ?_)
    · obtain rfl : bd = false := (by
        cases bd with
        | false => rfl
        | true => exact absurd (hbad rfl).2 (by omega))
      obtain ⟨hlt, hx, rfl⟩ := hgood rfl
      obtain rfl : k = 1 := by omega
      have hk1 : ls[pos] = 1 := UInt8.toNat_inj.1 (show ls[pos].toNat = 1 from by omega)
      have hat := itemP_at (d := d) (left := left) hlt
      rw [hk1] at hat
      (refine j_call rfl rfl (ccount_spec rb a c ls hc hL (pos + 1) hlt (left : Nat) (blk b 64 [.int .i64 (1 : Nat), .int .i64 0, .string ByteArray.empty, .slice none 0 0] :: blk b4 64 [.int .i64 0, .int .i64 0, .string ⟨#[]⟩, .slice none 0 0] :: Lp) hv.cons.cons) ((by repeat (first | exact .refl | apply Pk.cons | constructor))) rfl (fun v M N h hN => ?_); obtain ⟨m, p2, b2, rfl, hm, hpp2, hpl2, hg2, hn2, rfl⟩ := h; (try simp only [List.nil_append, List.cons_append, List.append_assoc] at hN); subst hN)
      unfold rdR
      repeat' (first | (show J _ _ _ (runS _ _ _ _ (⟨_, _, _, _, _, none⟩ :: _)); first | (show J _ _ _ (runS _ _ _ _ (⟨_, .move _, _, _, _, _⟩ :: _)); refine j_move rfl rfl ?_) | (show J _ _ _ (runS _ _ _ _ (⟨_, .fieldAddr _ _ _, _, _, _, _⟩ :: _)); refine j_fieldAddr rfl rfl ?_) | (show J _ _ _ (runS _ _ _ _ (⟨_, .binOp _ _ _ _ _, _, _, _, _⟩ :: _)); (first | refine j_bin rfl rfl rfl rfl ?_ | refine j_quo rfl rfl (by omega) rfl ?_ | refine j_rem rfl rfl (by omega) rfl ?_)) | (show J _ _ _ (runS _ _ _ _ (⟨_, .assign _, _, _, _, _⟩ :: _)); refine j_assign rfl rfl ?_) | (show J _ _ _ (runS _ _ _ _ (⟨_, .store _ _ _, _, _, _, _⟩ :: _)); ((refine j_set rfl rfl rfl (by rfl) (by repeat constructor) (by repeat constructor) ?_))) | (show J _ _ _ (runS _ _ _ _ (⟨_, .convert _ _ _, _, _, _, _⟩ :: _)); refine j_conv rfl rfl ?_)) | refine j_nil ?_ | (show J _ _ _ (Code.wp _ _ _); first | refine j_seq ?_ | refine j_region ?_ | (show J _ _ _ (Code.wp _ (.cond _ _ _) _); (refine j_dec rfl (fun h => ?_) (fun h => ?_))) | refine j_skip ?_) | refine j_then ?_ | refine j_inb ?_)
      all_goals
        first | rw [unz_odd m hm (by assumption)] | rw [unz_even m hm (by assumption)]
        refine j_loads [.int .i64 ((1 : Nat) : Int), .int .i64 (unzig m), .string ByteArray.empty, .slice none 0 0] rfl rfl rfl (by repeat constructor) ⟨rfl, rfl, rfl, rfl, trivial⟩ rfl ?_
        repeat' (first | (show J _ _ _ (runS _ _ _ _ (⟨_, _, _, _, _, none⟩ :: _)); (show J _ _ _ (runS _ _ _ _ (⟨_, .store _ _ _, _, _, _, _⟩ :: _)); ((refine j_sets rfl rfl rfl (by rfl) (by repeat constructor) (by repeat constructor) (by rfl) ?_)))) | refine j_nil ?_ | (show J _ _ _ (Code.wp _ _ _); (refine j_ret ?_)) | refine j_then ?_)
        cases b2 with
        | true =>
          (refine j_itO0 ?_; refine j_retc [.int .i64 ((1 : Nat) : Int), .int .i64 (unzig m), .string ByteArray.empty, .slice none 0 0] rfl rfl rfl (by repeat constructor) rfl ⟨rfl, rfl, rfl, rfl, trivial⟩ (M := rdR rb a c ls p2 (left : Nat) true :: ItO none :: Lp) (by repeat (first | exact .refl | apply Pk.cons | refine .drop ?_ | constructor)) ⟨⟨1, unzig m, ⟨#[]⟩, none, 0, 0⟩, none, p2, _, rfl, .bad (by omega) hpl2 ?_, rfl⟩; rw [hat, if_pos rfl, hn2 rfl])
        | false =>
          refine j_it0 (t := .num (unzig m) none 0) (fun w S => by simp only [OwnI]) ?_
          (refine j_retc [.int .i64 ((1 : Nat) : Int), .int .i64 (unzig m), .string ByteArray.empty, .slice none 0 0] rfl rfl rfl (by repeat constructor) rfl ⟨rfl, rfl, rfl, rfl, trivial⟩ (M := rdR rb a c ls (p2) (left : Nat) false :: ItO (some (.num (unzig m) none 0)) :: Lp) (by repeat (first | exact .refl | apply Pk.cons | refine .drop ?_ | constructor)) ⟨toRW (.num (unzig m) none 0), some (.num (unzig m) none 0), p2, _, rfl, .good (by omega) (by omega) (by omega) ?_, rfl⟩; rw [hat, if_pos rfl, hg2 rfl, plI])
    · obtain rfl : bd = false := (by
        cases bd with
        | false => rfl
        | true => exact absurd (hbad rfl).2 (by omega))
      obtain ⟨hlt, hx, rfl⟩ := hgood rfl
      obtain rfl : k = 2 := by omega
      have hk1 : ls[pos] = 2 := UInt8.toNat_inj.1 (show ls[pos].toNat = 2 from by omega)
      have hat := itemP_at (d := d) (left := left) hlt
      rw [hk1] at hat
      (refine j_call rfl rfl (ccount_spec rb a c ls hc hL (pos + 1) hlt (left : Nat) (blk b 64 [.int .i64 (2 : Nat), .int .i64 0, .string ByteArray.empty, .slice none 0 0] :: blk b4 64 [.int .i64 0, .int .i64 0, .string ⟨#[]⟩, .slice none 0 0] :: Lp) hv.cons.cons) ((by repeat (first | exact .refl | apply Pk.cons | constructor))) rfl (fun v M N h hN => ?_); obtain ⟨m, p2, b2, rfl, hm, hpp2, hpl2, hg2, hn2, rfl⟩ := h; (try simp only [List.nil_append, List.cons_append, List.append_assoc] at hN); subst hN)
      unfold rdR
      have hwl : IntKind.u64.wrap ((ls.length : Int) - (p2 : Int)) = ((ls.length - p2 : Nat) : Int) := (by
        rw [show ((ls.length : Int) - (p2 : Int)) = ((ls.length - p2 : Nat) : Int) from by omega]
        exact u64n (by omega))
      cases b2 with
      | true =>
        repeat' (first | (show J _ _ _ (runS _ _ _ _ (⟨_, _, _, _, _, none⟩ :: _)); first | (show J _ _ _ (runS _ _ _ _ (⟨_, .move _, _, _, _, _⟩ :: _)); refine j_move rfl rfl ?_) | (show J _ _ _ (runS _ _ _ _ (⟨_, .load _ _, _, _, _, _⟩ :: _)); ((refine j_load rfl rfl (by repeat constructor) rfl rfl ?_))) | (show J _ _ _ (runS _ _ _ _ (⟨_, .fieldAddr _ _ _, _, _, _, _⟩ :: _)); refine j_fieldAddr rfl rfl ?_) | (show J _ _ _ (runS _ _ _ _ (⟨_, .nilCheck _, _, _, _, _⟩ :: _)); ((refine j_nilCheck rfl rfl ?_))) | (show J _ _ _ (runS _ _ _ _ (⟨_, .binOp _ _ _ _ _, _, _, _, _⟩ :: _)); ((refine j_bin rfl rfl rfl rfl ?_))) | (show J _ _ _ (runS _ _ _ _ (⟨_, .assign _, _, _, _, _⟩ :: _)); refine j_assign rfl rfl ?_) | (show J _ _ _ (runS _ _ _ _ (⟨_, .store _ _ _, _, _, _, _⟩ :: _)); ((refine j_set rfl rfl rfl (by rfl) (by repeat constructor) (by repeat constructor) ?_))) | (show J _ _ _ (runS _ _ _ _ (⟨_, .pick _ _ _, _, _, _, _⟩ :: _)); (first | refine j_pick_t rfl rfl rfl ?_ | refine j_pick_f rfl rfl rfl ?_))) | refine j_nil ?_ | (show J _ _ _ (runS _ _ _ _ (⟨_, _, _, _, _, some _⟩ :: _)); first | refine j_gno_u rfl rfl rfl rfl ?_ | refine j_gyes rfl rfl rfl ?_ | refine j_gsplit_dec rfl rfl (fun h => ?_) (fun h => ?_)) | (show J _ _ _ (Code.wp _ _ _); first | refine j_seq ?_ | refine j_region ?_ | (show J _ _ _ (Code.wp _ (.cond _ _ _) _); (refine j_true rfl ?_)) | refine j_draw (by decide +kernel) ?_) | refine j_then ?_)
        all_goals
          refine j_loads [.int .i64 ((2 : Nat) : Int), .int .i64 0, .string ByteArray.empty, .slice none 0 0] rfl rfl rfl (by repeat constructor) ⟨rfl, rfl, rfl, rfl, trivial⟩ rfl ?_
          repeat' (first | (show J _ _ _ (runS _ _ _ _ (⟨_, _, _, _, _, none⟩ :: _)); (show J _ _ _ (runS _ _ _ _ (⟨_, .store _ _ _, _, _, _, _⟩ :: _)); ((refine j_sets rfl rfl rfl (by rfl) (by repeat constructor) (by repeat constructor) (by rfl) ?_)))) | refine j_nil ?_ | (show J _ _ _ (Code.wp _ _ _); (refine j_ret ?_)) | refine j_then ?_ | refine j_then_ret ?_ | refine j_inb_ret ?_)
          (refine j_itO0 ?_; refine j_retc [.int .i64 ((2 : Nat) : Int), .int .i64 0, .string ByteArray.empty, .slice none 0 0] rfl rfl rfl (by repeat constructor) rfl ⟨rfl, rfl, rfl, rfl, trivial⟩ (M := rdR rb a c ls p2 (left : Nat) true :: ItO none :: Lp) (by repeat (first | exact .refl | apply Pk.cons | refine .drop ?_ | constructor)) ⟨⟨2, 0, ⟨#[]⟩, none, 0, 0⟩, none, p2, _, rfl, .bad (by omega) hpl2 ?_, rfl⟩; rw [hat, if_neg (by decide), if_pos rfl, sizeP, hn2 rfl])
      | false =>
        repeat' (first | (show J _ _ _ (runS _ _ _ _ (⟨_, _, _, _, _, none⟩ :: _)); first | (show J _ _ _ (runS _ _ _ _ (⟨_, .move _, _, _, _, _⟩ :: _)); refine j_move rfl rfl ?_) | (show J _ _ _ (runS _ _ _ _ (⟨_, .load _ _, _, _, _, _⟩ :: _)); ((refine j_load rfl rfl (by repeat constructor) rfl rfl ?_))) | (show J _ _ _ (runS _ _ _ _ (⟨_, .fieldAddr _ _ _, _, _, _, _⟩ :: _)); refine j_fieldAddr rfl rfl ?_) | (show J _ _ _ (runS _ _ _ _ (⟨_, .nilCheck _, _, _, _, _⟩ :: _)); ((refine j_nilCheck rfl rfl ?_))) | (show J _ _ _ (runS _ _ _ _ (⟨_, .binOp _ _ _ _ _, _, _, _, _⟩ :: _)); (first | refine j_sub_ rfl rfl (by omega) rfl ?_ | refine j_bin rfl rfl rfl rfl ?_)) | (show J _ _ _ (runS _ _ _ _ (⟨_, .assign _, _, _, _, _⟩ :: _)); refine j_assign rfl rfl ?_) | (show J _ _ _ (runS _ _ _ _ (⟨_, .store _ _ _, _, _, _, _⟩ :: _)); ((refine j_set rfl rfl rfl (by rfl) (by repeat constructor) (by repeat constructor) ?_))) | (show J _ _ _ (runS _ _ _ _ (⟨_, .pick _ _ _, _, _, _, _⟩ :: _)); (first | refine j_pick_t rfl rfl rfl ?_ | refine j_pick_f rfl rfl rfl ?_)) | (show J _ _ _ (runS _ _ _ _ (⟨_, .call ⟨.builtin .len, _, _⟩, _, _, _, _⟩ :: _)); ((refine j_len rfl rfl ?_))) | (show J _ _ _ (runS _ _ _ _ (⟨_, .convert _ _ _, _, _, _, _⟩ :: _)); refine j_conv rfl rfl ?_)) | refine j_nil ?_ | (show J _ _ _ (runS _ _ _ _ (⟨_, _, _, _, _, some _⟩ :: _)); first | refine j_gno_u rfl rfl rfl rfl ?_ | refine j_gyes rfl rfl rfl ?_ | refine j_gsplit_dec rfl rfl (fun h => ?_) (fun h => ?_)) | (show J _ _ _ (Code.wp _ _ _); first | refine j_seq ?_ | refine j_region ?_ | (show J _ _ _ (Code.wp _ (.cond _ _ _) _); first | refine j_true rfl ?_ | refine j_dec rfl (fun h => ?_) (fun h => ?_)) | refine j_skip ?_ | refine j_draw (by decide +kernel) ?_) | refine j_then ?_)
        · refine j_loads [.int .i64 ((2 : Nat) : Int), .int .i64 0, .string ByteArray.empty, .slice none 0 0] rfl rfl rfl (by repeat constructor) ⟨rfl, rfl, rfl, rfl, trivial⟩ rfl ?_
          repeat' (first | (show J _ _ _ (runS _ _ _ _ (⟨_, _, _, _, _, none⟩ :: _)); (show J _ _ _ (runS _ _ _ _ (⟨_, .store _ _ _, _, _, _, _⟩ :: _)); ((refine j_sets rfl rfl rfl (by rfl) (by repeat constructor) (by repeat constructor) (by rfl) ?_)))) | refine j_nil ?_ | (show J _ _ _ (Code.wp _ _ _); (refine j_ret ?_)) | refine j_then ?_ | refine j_then_ret ?_ | refine j_inb_ret ?_)
          (refine j_itO0 ?_; refine j_retc [.int .i64 ((2 : Nat) : Int), .int .i64 0, .string ByteArray.empty, .slice none 0 0] rfl rfl rfl (by repeat constructor) rfl ⟨rfl, rfl, rfl, rfl, trivial⟩ (M := rdR rb a c ls p2 (left : Nat) true :: ItO none :: Lp) (by repeat (first | exact .refl | apply Pk.cons | refine .drop ?_ | constructor)) ⟨⟨2, 0, ⟨#[]⟩, none, 0, 0⟩, none, p2, _, rfl, .bad (by omega) hpl2 ?_, rfl⟩; rw [hat, if_neg (by decide), if_pos rfl, szP_big (hg2 rfl) (by omega)])
        · rw [hwl] at h
          refine j_loads [.int .i64 ((2 : Nat) : Int), .int .i64 0, .string ByteArray.empty, .slice none 0 0] rfl rfl rfl (by repeat constructor) ⟨rfl, rfl, rfl, rfl, trivial⟩ rfl ?_
          repeat' (first | (show J _ _ _ (runS _ _ _ _ (⟨_, _, _, _, _, none⟩ :: _)); (show J _ _ _ (runS _ _ _ _ (⟨_, .store _ _ _, _, _, _, _⟩ :: _)); ((refine j_sets rfl rfl rfl (by rfl) (by repeat constructor) (by repeat constructor) (by rfl) ?_)))) | refine j_nil ?_ | (show J _ _ _ (Code.wp _ _ _); (refine j_ret ?_)) | refine j_then ?_ | refine j_then_ret ?_ | refine j_inb_ret ?_)
          (refine j_itO0 ?_; refine j_retc [.int .i64 ((2 : Nat) : Int), .int .i64 0, .string ByteArray.empty, .slice none 0 0] rfl rfl rfl (by repeat constructor) rfl ⟨rfl, rfl, rfl, rfl, trivial⟩ (M := rdR rb a c ls p2 (left : Nat) true :: ItO none :: Lp) (by repeat (first | exact .refl | apply Pk.cons | refine .drop ?_ | constructor)) ⟨⟨2, 0, ⟨#[]⟩, none, 0, 0⟩, none, p2, _, rfl, .bad (by omega) hpl2 ?_, rfl⟩; exact txtNo hlt hk1 (hg2 rfl) (by omega) (by omega))
        · rw [hwl] at h
          have hm64 := wrap64_id (x := (m : Int)) (by omega)
          have hpm : IntKind.i64.wrap ((p2 : Int) + (m : Int)) = ((p2 + m : Nat) : Int) := (by rw [wrap64_id (by omega)]; omega)
          have hsv : Sees Lp (fun w => Vw w (offA a p2 c 1) ((ls.drop p2).take m)) := (hv.off p2 c hc).take m
          rw [hm64, hpm]
          refine j_slice p2 (p2 + m) c rfl (.inl ⟨rfl, rfl⟩) (.inr ⟨_, _, _, rfl, rfl, rfl, by omega⟩) (.inr ⟨_, _, _, rfl, rfl, rfl, by omega⟩) rfl ?_
          refine j_bytesV (M := Lp) rfl (by repeat (first | exact .refl | refine .drop ?_)) hsv (by rw [List.length_take, List.length_drop]; omega) rfl ?_
          repeat' (first | (show J _ _ _ (runS _ _ _ _ (⟨_, _, _, _, _, none⟩ :: _)); first | (show J _ _ _ (runS _ _ _ _ (⟨_, .move _, _, _, _, _⟩ :: _)); refine j_move rfl rfl ?_) | (show J _ _ _ (runS _ _ _ _ (⟨_, .load _ _, _, _, _, _⟩ :: _)); ((refine j_load rfl rfl (by repeat constructor) rfl rfl ?_))) | (show J _ _ _ (runS _ _ _ _ (⟨_, .fieldAddr _ _ _, _, _, _, _⟩ :: _)); refine j_fieldAddr rfl rfl ?_) | (show J _ _ _ (runS _ _ _ _ (⟨_, .nilCheck _, _, _, _, _⟩ :: _)); ((refine j_nilCheck rfl rfl ?_))) | (show J _ _ _ (runS _ _ _ _ (⟨_, .binOp _ _ _ _ _, _, _, _, _⟩ :: _)); ((refine j_add rfl rfl (by omega) rfl ?_))) | (show J _ _ _ (runS _ _ _ _ (⟨_, .store _ _ _, _, _, _, _⟩ :: _)); ((refine j_set rfl rfl rfl (by rfl) (by repeat constructor) (by repeat constructor) ?_))) | (show J _ _ _ (runS _ _ _ _ (⟨_, .convert _ _ _, _, _, _, _⟩ :: _)); refine j_conv rfl rfl ?_)) | refine j_nil ?_ | (show J _ _ _ (Code.wp _ _ _); first | refine j_seq ?_ | refine j_region ?_) | refine j_then ?_ | refine j_inb ?_)
          rw [hm64]
          rw [show ((p2 : Int) + (m : Int)) = ((p2 + m : Nat) : Int) from by omega]
          repeat' (fail)
          refine j_loads [.int .i64 ((2 : Nat) : Int), .int .i64 0, .string ⟨((ls.drop p2).take m).toArray⟩, .slice none 0 0] rfl rfl rfl (by repeat constructor) ⟨rfl, rfl, rfl, rfl, trivial⟩ rfl ?_
          repeat' (first | (show J _ _ _ (runS _ _ _ _ (⟨_, _, _, _, _, none⟩ :: _)); (show J _ _ _ (runS _ _ _ _ (⟨_, .store _ _ _, _, _, _, _⟩ :: _)); ((refine j_sets rfl rfl rfl (by rfl) (by repeat constructor) (by repeat constructor) (by rfl) ?_)))) | refine j_nil ?_ | (show J _ _ _ (Code.wp _ _ _); (refine j_ret ?_)) | refine j_then ?_)
          refine j_it0 (t := .txt ⟨((ls.drop p2).take m).toArray⟩ none 0) (fun w S => by simp only [OwnI]) ?_
          (refine j_retc [.int .i64 ((2 : Nat) : Int), .int .i64 0, .string ⟨((ls.drop p2).take m).toArray⟩, .slice none 0 0] rfl rfl rfl (by repeat constructor) rfl ⟨rfl, rfl, rfl, rfl, trivial⟩ (M := rdR rb a c ls (p2 + m) (left : Nat) false :: ItO (some (.txt ⟨((ls.drop p2).take m).toArray⟩ none 0)) :: Lp) (by repeat (first | exact .refl | apply Pk.cons | refine .drop ?_ | constructor)) ⟨toRW (.txt ⟨((ls.drop p2).take m).toArray⟩ none 0), some (.txt ⟨((ls.drop p2).take m).toArray⟩ none 0), p2 + m, _, rfl, .good (by omega) (by omega) (by omega) ?_, rfl⟩; exact txtYes hlt hk1 (hg2 rfl) (by omega) (by omega))
    · obtain rfl : bd = false := (by
        cases bd with
        | false => rfl
        | true => exact absurd (hbad rfl).2 (by omega))
      obtain ⟨hlt, hx, rfl⟩ := hgood rfl
      obtain rfl : k = 3 := by omega
      have hk1 : ls[pos] = 3 := UInt8.toNat_inj.1 (show ls[pos].toNat = 3 from by omega)
      have hat := itemP_at (d := d) (left := left) hlt
      rw [hk1] at hat
      (refine j_call rfl rfl (ccount_spec rb a c ls hc hL (pos + 1) hlt (left : Nat) (blk b 64 [.int .i64 (3 : Nat), .int .i64 0, .string ByteArray.empty, .slice none 0 0] :: blk b4 64 [.int .i64 0, .int .i64 0, .string ⟨#[]⟩, .slice none 0 0] :: Lp) hv.cons.cons) ((by repeat (first | exact .refl | apply Pk.cons | constructor))) rfl (fun v M N h hN => ?_); obtain ⟨m, p2, b2, rfl, hm, hpp2, hpl2, hg2, hn2, rfl⟩ := h; (try simp only [List.nil_append, List.cons_append, List.append_assoc] at hN); subst hN)
      unfold rdR
      repeat' (first | (show J _ _ _ (runS _ _ _ _ (⟨_, _, _, _, _, none⟩ :: _)); (show J _ _ _ (runS _ _ _ _ (⟨_, .assign _, _, _, _, _⟩ :: _)); refine j_assign rfl rfl ?_)) | refine j_nil ?_ | refine j_then ?_)
      refine j_seq ?_
      refine j_cutR (X := { q : Bool // (q = false → b2 = false ∧ m ≤ 4096) ∧ (q = true → b2 = true ∨ 4096 < m) }) (fun q => [(0, .pointer (some ⟨rb, 0, none⟩)), (1, .int .i64 (deep : Nat)), (4, .pointer (some ⟨b4, 0, none⟩)), (5, .pointer (some ⟨b, 0, none⟩)), (8, .int .u64 (m : Nat))]) (fun q => rdR rb a c ls p2 (left : Nat) q.1 :: blk b 64 [.int .i64 (3 : Nat), .int .i64 0, .string ByteArray.empty, .slice none 0 0] :: blk b4 64 [.int .i64 0, .int .i64 0, .string ⟨#[]⟩, .slice none 0 0] :: (Lp ++ F)) ?_ (fun q => ?_)
      · repeat' (first | (show J _ _ _ (runS _ _ _ _ (⟨_, _, _, _, _, none⟩ :: _)); first | (show J _ _ _ (runS _ _ _ _ (⟨_, .move _, _, _, _, _⟩ :: _)); refine j_move rfl rfl ?_) | (show J _ _ _ (runS _ _ _ _ (⟨_, .fieldAddr _ _ _, _, _, _, _⟩ :: _)); refine j_fieldAddr rfl rfl ?_) | (show J _ _ _ (runS _ _ _ _ (⟨_, .nilCheck _, _, _, _, _⟩ :: _)); ((refine j_nilCheck rfl rfl ?_))) | (show J _ _ _ (runS _ _ _ _ (⟨_, .binOp _ _ _ _ _, _, _, _, _⟩ :: _)); ((refine j_bin rfl rfl rfl rfl ?_))) | (show J _ _ _ (runS _ _ _ _ (⟨_, .store _ _ _, _, _, _, _⟩ :: _)); ((refine j_set rfl rfl rfl (by rfl) (by repeat constructor) (by repeat constructor) ?_)))) | refine j_nil ?_ | (show J _ _ _ (Code.wp _ _ _); first | refine j_seq ?_ | refine j_region ?_ | (show J _ _ _ (Code.wp _ (.cond _ _ _) _); (refine j_dec rfl (fun h => ?_) (fun h => ?_))) | refine j_skip ?_) | refine j_then ?_)
        · exact j_cutRend (Y := { q : Bool // (q = false → b2 = false ∧ m ≤ 4096) ∧ (q = true → b2 = true ∨ 4096 < m) }) ⟨true, fun h => (by cases h), fun _ => .inr (by omega)⟩ ⟨rfl, rfl, rfl, rfl, rfl, trivial⟩ .refl
        · exact j_cutRend (Y := { q : Bool // (q = false → b2 = false ∧ m ≤ 4096) ∧ (q = true → b2 = true ∨ 4096 < m) }) ⟨b2, fun h => ⟨h, by omega⟩, fun h => .inl h⟩ ⟨rfl, rfl, rfl, rfl, rfl, trivial⟩ .refl
      obtain ⟨q, hq1, hq2⟩ := q
      dsimp only
      have hq0 : q = true → itemP (d + 1) (left + 1) (ls.drop pos) = none := fun h => by
        rw [hat, if_neg (by decide), if_neg (by decide), if_pos rfl]
        cases b2 with
        | true => rw [sizeP, hn2 rfl]
        | false => rw [szP_big (hg2 rfl) (by rcases hq2 h with h | h; (cases h); exact h)]
      refine j_sl0 (α := RW) 64 none (j_itLOq q ?_)
      repeat' (first | (show J _ _ _ (runS _ _ _ _ (⟨_, _, _, _, _, none⟩ :: _)); (show J _ _ _ (runS _ _ _ _ (⟨_, .assign _, _, _, _, _⟩ :: _)); refine j_assign rfl rfl ?_)) | refine j_nil ?_ | (show J _ _ _ (Code.wp _ _ _); first | refine j_seq ?_ | refine j_region ?_ | refine j_block ?_) | refine j_then ?_)
      refine j_loop (X := { s : CS // CInv b2 d left m pos p2 ls s }) (fun s => [(0, .pointer (some ⟨rb, 0, none⟩)), (1, .int .i64 (deep : Nat)), (4, .pointer (some ⟨b4, 0, none⟩)), (5, .pointer (some ⟨b, 0, none⟩)), (8, .int .u64 (m : Nat)), (9, .int .u64 (s.1.i : Nat))]) (fun s => blk b 64 [.int .i64 (3 : Nat), .int .i64 0, .string ByteArray.empty, .slice s.1.a s.1.rs.length s.1.c] :: Sl 64 s.1.a s.1.c s.1.rs :: ItLO s.1.o :: rdR rb a c ls s.1.p s.1.lf s.1.o.isNone :: blk b4 64 [.int .i64 0, .int .i64 0, .string ⟨#[]⟩, .slice none 0 0] :: (Lp ++ F)) (fun s => m - s.1.i) ⟨⟨0, p2, left, [], none, 0, if q then none else some []⟩, ?_⟩ ⟨rfl, rfl, rfl, rfl, rfl, rfl, trivial⟩ ?_ (fun s => ?_)
      · refine ⟨Nat.zero_le _, rfl, Nat.le_refl _, hpl2, fun ts hts => ?_, fun ho => ?_⟩
        · cases q with
          | true => cases hts
          | false =>
            cases hts
            refine ⟨(hq1 rfl).1, (hq1 rfl).2, rfl, left, rfl, Nat.le_refl _, ?_⟩
            show _ = contP [] (itemsP (itemP d) (m - 0) left (ls.drop p2))
            rw [Nat.sub_zero]
            cases itemsP (itemP d) m left (ls.drop p2) with
            | none => rfl
            | some q => rfl
        · cases q with
          | true => exact hq0 rfl
          | false => cases ho
      · cases q <;> exact (by repeat (first | exact .refl | apply Pk.cons | constructor))
      obtain ⟨⟨i, p, lf, rs, a7, c7, o⟩, hi, hrl, hpp3, hpl3, hgo, hno⟩ := s
      dsimp only at hi hrl hpp3 hpl3 hgo hno ⊢
      unfold rdR
      repeat' (first | (show J _ _ _ (runS _ _ _ _ (⟨_, _, _, _, _, none⟩ :: _)); first | (show J _ _ _ (runS _ _ _ _ (⟨_, .move _, _, _, _, _⟩ :: _)); refine j_move rfl rfl ?_) | (show J _ _ _ (runS _ _ _ _ (⟨_, .load _ _, _, _, _, _⟩ :: _)); ((refine j_load rfl rfl (by repeat constructor) rfl rfl ?_))) | (show J _ _ _ (runS _ _ _ _ (⟨_, .fieldAddr _ _ _, _, _, _, _⟩ :: _)); refine j_fieldAddr rfl rfl ?_) | (show J _ _ _ (runS _ _ _ _ (⟨_, .nilCheck _, _, _, _, _⟩ :: _)); ((refine j_nilCheck rfl rfl ?_))) | (show J _ _ _ (runS _ _ _ _ (⟨_, .binOp _ _ _ _ _, _, _, _, _⟩ :: _)); ((refine j_bin rfl rfl rfl rfl ?_))) | (show J _ _ _ (runS _ _ _ _ (⟨_, .pick _ _ _, _, _, _, _⟩ :: _)); (first | refine j_pick_t rfl rfl rfl ?_ | refine j_pick_f rfl rfl rfl ?_)) | (show J _ _ _ (runS _ _ _ _ (⟨_, .unOp _ _ _, _, _, _, _⟩ :: _)); ((refine j_not_b rfl rfl ?_)))) | refine j_nil ?_ | (show J _ _ _ (runS _ _ _ _ (⟨_, _, _, _, _, some _⟩ :: _)); first | refine j_gno_u rfl rfl rfl rfl ?_ | refine j_gyes rfl rfl rfl ?_ | refine j_gsplit_dec rfl rfl (fun h => ?_) (fun h => ?_)) | (show J _ _ _ (Code.wp _ _ _); first | refine j_seq ?_ | refine j_region ?_ | refine j_block ?_ | (show J _ _ _ (Code.wp _ (.cond _ _ _) _); first | refine j_false rfl ?_ | refine j_bool rfl (fun h => ?_) (fun h => ?_)) | refine j_skip ?_ | refine j_exit ?_) | refine j_then ?_ | refine j_then_exit ?_ | refine j_inb ?_ | refine j_inb_here ?_)
      · cases o with
        | none => exact absurd h (by decide)
        | some ts =>
          have hi2 : i < m := by omega
          obtain ⟨hb2, hm4, hrs, l, rfl, hll, hco⟩ := hgo ts rfl
          refine j_plan (.take 0 (.take 2 (.take 3 (.take 4 (.fork 1 (.take 5 (.take 6 (.take 7 (.take 8 (.take 9 (.done)))))) (.fork 5 (.take 1 (.take 6 (.take 7 (.take 8 (.take 9 (.done)))))) (.stop))))))) (by decide +kernel) ?_
          repeat' (first | (show J _ _ _ (runS _ _ _ _ (⟨_, _, _, _, _, none⟩ :: _)); first | (show J _ _ _ (runS _ _ _ _ (⟨_, .move _, _, _, _, _⟩ :: _)); refine j_move rfl rfl ?_) | (show J _ _ _ (runS _ _ _ _ (⟨_, .load _ _, _, _, _, _⟩ :: _)); ((refine j_load rfl rfl (by repeat constructor) rfl rfl ?_))) | (show J _ _ _ (runS _ _ _ _ (⟨_, .fieldAddr _ _ _, _, _, _, _⟩ :: _)); refine j_fieldAddr rfl rfl ?_) | (show J _ _ _ (runS _ _ _ _ (⟨_, .binOp _ _ _ _ _, _, _, _, _⟩ :: _)); ((refine j_add rfl rfl (by omega) rfl ?_)))) | refine j_nil ?_ | (show J _ _ _ (runT _ _ _ _ _); first | refine j_take rfl ?_ | refine j_fork rfl ?_ ?_ | exact j_stop))
          all_goals
            rw [show (deep : Int) + 1 = ((deep + 1 : Nat) : Int) from by omega]
            (refine j_call rfl rfl (ih (deep + 1) (by omega) l (by omega) p hpl3 (blk b 64 [.int .i64 (3 : Nat), .int .i64 0, .string ByteArray.empty, .slice a7 rs.length c7] :: Sl 64 a7 c7 rs :: ItLO (some ts) :: blk b4 64 [.int .i64 0, .int .i64 0, .string ⟨#[]⟩, .slice none 0 0] :: Lp) hv.cons.cons.cons.cons) ((by repeat (first | exact .refl | apply Pk.cons | constructor))) rfl (fun v M N h hN => ?_); obtain ⟨x, oc, p5, lf5, rfl, hR, rfl⟩ := h; (try simp only [List.nil_append, List.cons_append, List.append_assoc] at hN); subst hN)
            obtain ⟨hR1, hR2, hR3, hR4⟩ := hR
            repeat' (first | (show J _ _ _ (runS _ _ _ _ (⟨_, _, _, _, _, none⟩ :: _)); (show J _ _ _ (runS _ _ _ _ (⟨_, .load _ _, _, _, _, _⟩ :: _)); ((refine j_load rfl rfl (by repeat constructor) rfl rfl ?_)))) | refine j_nil ?_ | (show J _ _ _ (runT _ _ _ _ _); (refine j_take rfl ?_)))
            refine j_lit1 (α := RW) rfl rfl x rfl (by decide) rfl (fun bh => ?_)
            repeat' (first | refine j_nil ?_ | (show J _ _ _ (runT _ _ _ _ _); (refine j_take rfl ?_)))
            refine j_append (α := RW) (ls := rs) (ms := [x]) rfl rfl rfl (fun _ _ => (by repeat constructor)) (M := [blk bh 64 (Enc.enc x)]) (by repeat ((exact .refl))) (sees_blk1 x) rfl rfl (by unfold maxLen; simp only [List.length_singleton]; omega) (by simp only [List.length_singleton]; omega) rfl (fun a9 c9 _ => ?_)
            repeat' (first | (show J _ _ _ (runS _ _ _ _ (⟨_, _, _, _, _, none⟩ :: _)); first | (show J _ _ _ (runS _ _ _ _ (⟨_, .move _, _, _, _, _⟩ :: _)); refine j_move rfl rfl ?_) | (show J _ _ _ (runS _ _ _ _ (⟨_, .fieldAddr _ _ _, _, _, _, _⟩ :: _)); refine j_fieldAddr rfl rfl ?_) | (show J _ _ _ (runS _ _ _ _ (⟨_, .binOp _ _ _ _ _, _, _, _, _⟩ :: _)); ((refine j_bin rfl rfl rfl rfl ?_))) | (show J _ _ _ (runS _ _ _ _ (⟨_, .assign _, _, _, _, _⟩ :: _)); refine j_assign rfl rfl ?_) | (show J _ _ _ (runS _ _ _ _ (⟨_, .store _ _ _, _, _, _, _⟩ :: _)); ((refine j_set rfl rfl rfl (by rfl) (by repeat constructor) (by repeat constructor) ?_)))) | refine j_nil ?_ | (show J _ _ _ (Code.wp _ _ _); (refine j_region ?_)) | (show J _ _ _ (runT _ _ _ _ _); first | refine j_take rfl ?_ | refine j_done ?_) | refine j_then ?_ | refine j_inb ?_)
            rw [show IntKind.u64.wrap ((i : Int) + 1) = ((i + 1 : Nat) : Int) from by rw [show ((i : Int) + 1) = ((i + 1 : Nat) : Int) from by omega]; exact u64n (by omega)]
            cases oc with
            | none =>
              refine j_itLO0 ?_
              refine j_round ⟨⟨i + 1, p5, lf5, rs ++ [x], a9, c9, none⟩, hi2, by dsimp only; rw [List.length_append, hrl]; rfl, by dsimp only; omega, hR2, fun ts h => (by cases h), fun _ => ?_⟩ (by dsimp only; omega) ⟨rfl, rfl, rfl, rfl, rfl, rfl, trivial⟩ (by repeat (first | exact .refl | apply Pk.cons | refine .drop ?_ | constructor))
              rw [hat, if_neg (by decide), if_neg (by decide), if_pos rfl, szP_ok (hg2 hb2) hm4]
              show (match itemsP (itemP d) m left (ls.drop p2) with | some (vs, l, r') => _ | none => _) = _
              rw [hco, show m - i = (m - (i + 1)) + 1 from by omega, contP_none (hR4 rfl)]
            | some t =>
              obtain ⟨hxt, l5, rfl, hl5, hit⟩ := hR3 t rfl
              refine j_tk (A := ItHL ts) (by repeat constructor) (j_tk (A := ItH t) (by repeat constructor) (j_itSnoc ?_))
              refine j_round ⟨⟨i + 1, p5, (l5 : Nat), rs ++ [x], a9, c9, some (ts ++ [t])⟩, hi2, by dsimp only; rw [List.length_append, hrl]; rfl, by dsimp only; omega, hR2, fun ts' h => ?_, fun h => (by cases h)⟩ (by dsimp only; omega) ⟨rfl, rfl, rfl, rfl, rfl, rfl, trivial⟩ (by repeat (first | exact .refl | apply Pk.cons | refine .drop ?_ | constructor))
              cases h
              refine ⟨hb2, hm4, by dsimp only; rw [hrs, hxt, List.map_append]; rfl, l5, rfl, by omega, ?_⟩
              dsimp only
              rw [hco, show m - i = (m - (i + 1)) + 1 from by omega]
              exact contP_step hit
      · cases o with
        | some ts => exact absurd h (by simp)
        | none =>
          refine j_loads [.int .i64 (3 : Nat), .int .i64 0, .string ByteArray.empty, .slice a7 rs.length c7] rfl rfl rfl (by repeat constructor) ⟨rfl, rfl, rfl, rfl, trivial⟩ rfl ?_
          repeat' (first | (show J _ _ _ (runS _ _ _ _ (⟨_, _, _, _, _, none⟩ :: _)); (show J _ _ _ (runS _ _ _ _ (⟨_, .store _ _ _, _, _, _, _⟩ :: _)); ((refine j_sets rfl rfl rfl (by rfl) (by repeat constructor) (by repeat constructor) (by rfl) ?_)))) | refine j_nil ?_ | (show J _ _ _ (Code.wp _ _ _); (refine j_ret ?_)) | refine j_then ?_)
          refine j_itO0 ?_
          exact j_retc [.int .i64 (3 : Nat), .int .i64 0, .string ByteArray.empty, .slice a7 rs.length c7] rfl rfl rfl (by repeat constructor) rfl ⟨rfl, rfl, rfl, rfl, trivial⟩ (M := rdR rb a c ls p lf true :: ItO none :: Lp) (by repeat (first | exact .refl | apply Pk.cons | refine .drop ?_ | constructor)) ⟨⟨(3 : Nat), 0, ⟨#[]⟩, a7, rs.length, c7⟩, none, p, _, rfl, .bad (by omega) hpl3 (hno rfl), rfl⟩
      · cases o with
        | none =>
          refine j_loads [.int .i64 (3 : Nat), .int .i64 0, .string ByteArray.empty, .slice a7 rs.length c7] rfl rfl rfl (by repeat constructor) ⟨rfl, rfl, rfl, rfl, trivial⟩ rfl ?_
          repeat' (first | (show J _ _ _ (runS _ _ _ _ (⟨_, _, _, _, _, none⟩ :: _)); (show J _ _ _ (runS _ _ _ _ (⟨_, .store _ _ _, _, _, _, _⟩ :: _)); ((refine j_sets rfl rfl rfl (by rfl) (by repeat constructor) (by repeat constructor) (by rfl) ?_)))) | refine j_nil ?_ | (show J _ _ _ (Code.wp _ _ _); (refine j_ret ?_)) | refine j_then ?_)
          refine j_itO0 ?_
          exact j_retc [.int .i64 (3 : Nat), .int .i64 0, .string ByteArray.empty, .slice a7 rs.length c7] rfl rfl rfl (by repeat constructor) rfl ⟨rfl, rfl, rfl, rfl, trivial⟩ (M := rdR rb a c ls p lf true :: ItO none :: Lp) (by repeat (first | exact .refl | apply Pk.cons | refine .drop ?_ | constructor)) ⟨⟨(3 : Nat), 0, ⟨#[]⟩, a7, rs.length, c7⟩, none, p, _, rfl, .bad (by omega) hpl3 (hno rfl), rfl⟩
        | some ts =>
          obtain ⟨hb2, hm4, rfl, l, rfl, hll, hco⟩ := hgo ts rfl
          have he : i = m := by omega
          rw [he, Nat.sub_self] at hco
          rw [List.length_map] at hrl ⊢
          rw [sl_raw]
          refine j_loads [.int .i64 (3 : Nat), .int .i64 0, .string ByteArray.empty, .slice a7 ts.length c7] rfl rfl rfl (by repeat constructor) ⟨rfl, rfl, rfl, rfl, trivial⟩ rfl ?_
          repeat' (first | (show J _ _ _ (runS _ _ _ _ (⟨_, _, _, _, _, none⟩ :: _)); (show J _ _ _ (runS _ _ _ _ (⟨_, .store _ _ _, _, _, _, _⟩ :: _)); ((refine j_sets rfl rfl rfl (by rfl) (by repeat constructor) (by repeat constructor) (by rfl) ?_)))) | refine j_nil ?_ | (show J _ _ _ (Code.wp _ _ _); (refine j_ret ?_)) | refine j_then ?_)
          refine j_tk (A := ItHL ts) (by repeat constructor) (j_tk (A := Sl 64 a7 c7 ts) (by repeat constructor) (j_itLst ?_))
          refine j_retc [.int .i64 (3 : Nat), .int .i64 0, .string ByteArray.empty, .slice a7 ts.length c7] rfl rfl rfl (by repeat constructor) rfl ⟨rfl, rfl, rfl, rfl, trivial⟩ (M := rdR rb a c ls p (l : Nat) false :: ItO (some (.lst a7 c7 ts)) :: Lp) (by repeat (first | exact .refl | apply Pk.cons | refine .drop ?_ | constructor)) ⟨toRW (.lst a7 c7 ts), some (.lst a7 c7 ts), p, _, rfl, .good (by omega) hpl3 (by omega) ?_, rfl⟩
          rw [hat, if_neg (by decide), if_neg (by decide), if_pos rfl, szP_ok (hg2 hb2) hm4]
          show (match itemsP (itemP d) m left (ls.drop p2) with | some (vs, l, r') => _ | none => _) = _
          rw [hco, itemsP, contP, List.append_nil, plI]
    · have hno : itemP (d + 1) (left + 1) (ls.drop pos) = none := by
        cases bd with
        | true => rw [(hbad rfl).1, List.drop_length]; rfl
        | false =>
          obtain ⟨hlt, hx, -⟩ := hgood rfl
          have e1 : ¬ ls[pos] = 1 := fun e => by rw [e] at hx; exact absurd hx (by have : (1 : UInt8).toNat = 1 := rfl; omega)
          have e2 : ¬ ls[pos] = 2 := fun e => by rw [e] at hx; exact absurd hx (by have : (2 : UInt8).toNat = 2 := rfl; omega)
          have e3 : ¬ ls[pos] = 3 := fun e => by rw [e] at hx; exact absurd hx (by have : (3 : UInt8).toNat = 3 := rfl; omega)
          rw [itemP_at hlt, if_neg e1, if_neg e2, if_neg e3]
      refine j_loads [.int .i64 (k : Nat), .int .i64 0, .string ByteArray.empty, .slice none 0 0] rfl rfl rfl (by repeat constructor) ⟨rfl, rfl, rfl, rfl, trivial⟩ rfl ?_
      repeat' (first | (show J _ _ _ (runS _ _ _ _ (⟨_, _, _, _, _, none⟩ :: _)); (show J _ _ _ (runS _ _ _ _ (⟨_, .store _ _ _, _, _, _, _⟩ :: _)); ((refine j_sets rfl rfl rfl (by rfl) (by repeat constructor) (by repeat constructor) (by rfl) ?_)))) | refine j_nil ?_ | (show J _ _ _ (Code.wp _ _ _); (refine j_ret ?_)) | refine j_then ?_)
      refine j_itO0 ?_
      exact j_retc [.int .i64 (k : Nat), .int .i64 0, .string ByteArray.empty, .slice none 0 0] rfl rfl rfl (by repeat constructor) rfl ⟨rfl, rfl, rfl, rfl, trivial⟩ (M := rdR rb a c ls p1 (left : Nat) true :: ItO none :: Lp) (by repeat (first | exact .refl | apply Pk.cons | refine .drop ?_ | constructor)) ⟨⟨(k : Nat), 0, ⟨#[]⟩, none, 0, 0⟩, none, p1, _, rfl, .bad hpp hpl hno, rfl⟩
end Go.Proofs.Ytnmfpgfgjjmfhaa
end

section
set_option linter.unusedVariables false
set_option linter.unusedSimpArgs false
set_option maxRecDepth 100000
namespace Go.Proofs.Ytnmfpgfgjjmfhaa
open Go
attribute [local irreducible] Exit.then Exit.inBlock Code.wp runS bodyPost postF J runT cutQ cutR Tr Sat blk Sl Old Star Ex Pu
attribute [local irreducible] ItH ItHL
theorem cdec_spec (a : Option Addr) (c : Nat) (ls : List UInt8) (hc : ls.length ≤ c) (hL : ls.length ≤ 9223372036854775807) (Lp : List HP) (hv : Sees Lp (fun w => Vw w a ls)) :
    Tr Try.prog 40 [.slice a ls.length c] Lp (fun v M => (∃ (t : IA) (left' : Nat), itemP 12 4096 ls = some (plI t, left', []) ∧ v = .tuple #[.agg (cellsI t).toArray, .int .i64 0] ∧ M = ItH t :: Lp) ∨
      ((∀ v left', itemP 12 4096 ls ≠ some (v, left', [])) ∧ v = .tuple #[.agg #[.int .i64 0, .int .i64 0, .string ⟨#[]⟩, .slice none 0 0], .int .i64 4] ∧ M = Lp)) := by
  refine tr_enter Try.func40 rfl Try.ntmps40 rfl (fun F => ?_)
  repeat' (first | (show J _ _ _ (runS _ _ _ _ (⟨_, _, _, _, _, none⟩ :: _)); first | (show J _ _ _ (runS _ _ _ _ (⟨_, .move _, _, _, _, _⟩ :: _)); refine j_move rfl rfl ?_) | (show J _ _ _ (runS _ _ _ _ (⟨_, .assign _, _, _, _, _⟩ :: _)); refine j_assign rfl rfl ?_) | (show J _ _ _ (runS _ _ _ _ (⟨_, .build _ _, _, _, _, _⟩ :: _)); refine j_build rfl (by repeat constructor) rfl ?_) | (show J _ _ _ (runS _ _ _ _ (⟨_, .box _ _, _, _, _, _⟩ :: _)); refine j_box rfl rfl (fun b => ?_)) | (show J _ _ _ (runS _ _ _ _ (⟨_, .alloc _, _, _, _, _⟩ :: _)); refine j_alloc rfl (fun b => ?_))) | refine j_nil ?_ | (show J _ _ _ (Code.wp _ _ _); first | refine j_seq ?_ | refine j_region ?_) | refine j_then ?_)
  rename_i b4
  (refine j_call rfl rfl (citem_spec b a c ls hc hL 12 1 rfl 4096 (by decide) 0 (Nat.zero_le _) (blk b4 64 [.int .i64 0, .int .i64 0, .string ByteArray.empty, .slice none 0 0] :: Lp) hv.cons) ((by repeat ((exact .refl)))) rfl (fun v M N h hN => ?_); obtain ⟨x, o, p, lf, rfl, ⟨h1, h2, h3, h4⟩, rfl⟩ := h; (try simp only [List.nil_append, List.cons_append, List.append_assoc] at hN); subst hN)
  rw [List.drop_zero] at h3 h4
  rw [show Enc.enc x = [.int .i64 x.k, .int .i64 x.n, .string x.s, .slice x.a x.l x.c] from rfl]
  unfold rdR
  cases o with
  | none =>
    repeat' (first | (show J _ _ _ (runS _ _ _ _ (⟨_, _, _, _, _, none⟩ :: _)); first | (show J _ _ _ (runS _ _ _ _ (⟨_, .move _, _, _, _, _⟩ :: _)); refine j_move rfl rfl ?_) | (show J _ _ _ (runS _ _ _ _ (⟨_, .load _ _, _, _, _, _⟩ :: _)); ((refine j_load rfl rfl (by repeat constructor) rfl rfl ?_))) | (show J _ _ _ (runS _ _ _ _ (⟨_, .fieldAddr _ _ _, _, _, _, _⟩ :: _)); refine j_fieldAddr rfl rfl ?_) | (show J _ _ _ (runS _ _ _ _ (⟨_, .nilCheck _, _, _, _, _⟩ :: _)); ((refine j_nilCheck rfl rfl ?_))) | (show J _ _ _ (runS _ _ _ _ (⟨_, .assign _, _, _, _, _⟩ :: _)); refine j_assign rfl rfl ?_) | (show J _ _ _ (runS _ _ _ _ (⟨_, .store _ _ _, _, _, _, _⟩ :: _)); ((refine j_sets rfl rfl rfl (by rfl) (by repeat constructor) (by repeat constructor) (by rfl) ?_))) | (show J _ _ _ (runS _ _ _ _ (⟨_, .pick _ _ _, _, _, _, _⟩ :: _)); ((refine j_pick_t rfl rfl rfl ?_))) | (show J _ _ _ (runS _ _ _ _ (⟨_, .build _ _, _, _, _, _⟩ :: _)); refine j_build rfl (by repeat constructor) rfl ?_) | (show J _ _ _ (runS _ _ _ _ (⟨_, .alloc _, _, _, _, _⟩ :: _)); refine j_alloc rfl (fun b => ?_))) | refine j_nil ?_ | (show J _ _ _ (runS _ _ _ _ (⟨_, _, _, _, _, some _⟩ :: _)); (refine j_gno_u rfl rfl rfl rfl ?_)) | (show J _ _ _ (Code.wp _ _ _); first | refine j_seq ?_ | refine j_region ?_ | (show J _ _ _ (Code.wp _ (.cond _ _ _) _); (refine j_true rfl ?_)) | refine j_ret ?_) | refine j_then ?_ | refine j_then_ret ?_)
    exact j_retc2 [.int .i64 0, .int .i64 0, .string ⟨#[]⟩, .slice none 0 0] rfl rfl rfl (by repeat constructor) rfl ⟨rfl, rfl, rfl, rfl, trivial⟩ rfl (M := Lp) (by repeat (first | exact .refl | refine .drop ?_)) (.inr ⟨fun v l h => absurd ((h4 rfl).symm.trans h) (by simp), rfl, rfl⟩)
  | some t =>
    obtain ⟨rfl, l, rfl, hl, hit⟩ := h3 t rfl
    repeat' (first | (show J _ _ _ (runS _ _ _ _ (⟨_, _, _, _, _, none⟩ :: _)); first | (show J _ _ _ (runS _ _ _ _ (⟨_, .move _, _, _, _, _⟩ :: _)); refine j_move rfl rfl ?_) | (show J _ _ _ (runS _ _ _ _ (⟨_, .load _ _, _, _, _, _⟩ :: _)); ((refine j_load rfl rfl (by repeat constructor) rfl rfl ?_))) | (show J _ _ _ (runS _ _ _ _ (⟨_, .fieldAddr _ _ _, _, _, _, _⟩ :: _)); refine j_fieldAddr rfl rfl ?_) | (show J _ _ _ (runS _ _ _ _ (⟨_, .nilCheck _, _, _, _, _⟩ :: _)); ((refine j_nilCheck rfl rfl ?_))) | (show J _ _ _ (runS _ _ _ _ (⟨_, .binOp _ _ _ _ _, _, _, _, _⟩ :: _)); ((refine j_bin rfl rfl rfl rfl ?_))) | (show J _ _ _ (runS _ _ _ _ (⟨_, .assign _, _, _, _, _⟩ :: _)); refine j_assign rfl rfl ?_) | (show J _ _ _ (runS _ _ _ _ (⟨_, .store _ _ _, _, _, _, _⟩ :: _)); ((refine j_sets rfl rfl rfl (by rfl) (by repeat constructor) (by repeat constructor) (by rfl) ?_))) | (show J _ _ _ (runS _ _ _ _ (⟨_, .pick _ _ _, _, _, _, _⟩ :: _)); ((refine j_pick_f rfl rfl rfl ?_))) | (show J _ _ _ (runS _ _ _ _ (⟨_, .call ⟨.builtin .len, _, _⟩, _, _, _, _⟩ :: _)); ((refine j_len rfl rfl ?_))) | (show J _ _ _ (runS _ _ _ _ (⟨_, .build _ _, _, _, _, _⟩ :: _)); refine j_build rfl (by repeat constructor) rfl ?_) | (show J _ _ _ (runS _ _ _ _ (⟨_, .alloc _, _, _, _, _⟩ :: _)); refine j_alloc rfl (fun b => ?_))) | refine j_nil ?_ | (show J _ _ _ (runS _ _ _ _ (⟨_, _, _, _, _, some _⟩ :: _)); (refine j_gyes rfl rfl rfl ?_)) | (show J _ _ _ (Code.wp _ _ _); first | refine j_seq ?_ | refine j_region ?_ | (show J _ _ _ (Code.wp _ (.cond _ _ _) _); (refine j_dec rfl (fun h => ?_) (fun h => ?_))) | refine j_ret ?_ | refine j_skip ?_) | refine j_then ?_ | refine j_then_ret ?_)
    · exact j_retc2 [.int .i64 0, .int .i64 0, .string ⟨#[]⟩, .slice none 0 0] rfl rfl rfl (by repeat constructor) rfl ⟨rfl, rfl, rfl, rfl, trivial⟩ rfl (M := Lp) (by repeat (first | exact .refl | refine .drop ?_)) (.inr ⟨fun v l h => (by
        rw [hit] at h
        simp only [Option.some.injEq, Prod.mk.injEq] at h
        have := congrArg List.length h.2.2
        rw [List.length_drop, List.length_nil] at this
        omega), rfl, rfl⟩)
    · refine j_loads [.int .i64 (kindI t), .int .i64 (numI t), .string (strI t), .slice (adI t) (lsI t).length (cpI t)] rfl rfl rfl (by repeat constructor) ⟨rfl, rfl, rfl, rfl, trivial⟩ rfl ?_
      repeat' (first | (show J _ _ _ (runS _ _ _ _ (⟨_, _, _, _, _, none⟩ :: _)); first | (show J _ _ _ (runS _ _ _ _ (⟨_, .assign _, _, _, _, _⟩ :: _)); refine j_assign rfl rfl ?_) | (show J _ _ _ (runS _ _ _ _ (⟨_, .store _ _ _, _, _, _, _⟩ :: _)); ((refine j_sets rfl rfl rfl (by rfl) (by repeat constructor) (by repeat constructor) (by rfl) ?_)))) | refine j_nil ?_ | (show J _ _ _ (Code.wp _ _ _); (refine j_ret ?_)) | refine j_then ?_)
      refine j_retc2 [.int .i64 (kindI t), .int .i64 (numI t), .string (strI t), .slice (adI t) (lsI t).length (cpI t)] rfl rfl rfl (by repeat constructor) rfl ⟨rfl, rfl, rfl, rfl, trivial⟩ rfl (M := ItH t :: Lp) (by repeat (first | exact .refl | apply Pk.cons | refine .drop ?_ | constructor)) (.inl ⟨t, l, ?_, by rw [cells_is t], rfl⟩)
      rw [hit, List.drop_of_length_le (by omega)]
end Go.Proofs.Ytnmfpgfgjjmfhaa
end

section
set_option linter.unusedVariables false
set_option linter.unusedSimpArgs false
namespace Go.Proofs.Ytnmfpgfgjjmfhaa
open Go

theorem digs_be : ∀ (l : List UInt8) (f : Nat), l.length ≤ f → l.getLast? ≠ some 0 → digs f (beN l.reverse) = l
  | [], f, _, _ => digs_zero f
  | x :: t, 0, h, _ => by simp at h
  | x :: t, f + 1, h, h0 => by
    have ht : t.getLast? ≠ some 0 := by
      cases t with
      | nil => simp
      | cons y t => rw [List.getLast?_cons_cons] at h0; exact h0
    have ih := digs_be t f (by simpa using h) ht
    have hx := x.toNat_lt
    rw [List.reverse_cons, beN_snoc, digs]
    have hd : (beN t.reverse * 256 + x.toNat) / 256 = beN t.reverse := by omega
    have hm : UInt8.ofNat (beN t.reverse * 256 + x.toNat) = x := UInt8.toNat_inj.1 (by rw [UInt8.toNat_ofNat']; omega)
    split
    · rename_i hz
      exfalso
      have hb : beN t.reverse = 0 := by omega
      have hx0 : x.toNat = 0 := by omega
      rw [hb, digs_zero] at ih
      subst ih
      refine h0 ?_
      rw [show x = 0 from UInt8.toNat_inj.1 hx0]
      rfl
    · rw [hd, hm, ih]
theorem cntP_canon {ls r : List UInt8} {n : Nat} (h : cntP ls = some (n, r)) : ls = cntB n ++ r ∧ n < 18446744073709551616 := by
  cases ls with
  | nil => simp [cntP] at h
  | cons k q =>
    rw [cntP] at h
    split at h
    · cases h
    · rename_i hn
      simp only [Option.some.injEq, Prod.mk.injEq] at h
      obtain ⟨rfl, rfl⟩ := h
      have hk : ¬ 8 < k.toNat := fun e => hn (.inl e)
      have hq : ¬ q.length < k.toNat := fun e => hn (.inr (.inl e))
      have hz : (q.take k.toNat).head? ≠ some 0 := fun e => hn (.inr (.inr e))
      have hl : (q.take k.toNat).length = k.toNat := by rw [List.length_take]; omega
      have hd := digs_be (q.take k.toNat).reverse 8 (by rw [List.length_reverse, hl]; omega) (by rw [List.getLast?_reverse]; exact hz)
      rw [List.reverse_reverse] at hd
      constructor
      · rw [cntB, hd, List.reverse_reverse, List.length_reverse, hl, show UInt8.ofNat k.toNat = k from UInt8.toNat_inj.1 (by rw [UInt8.toNat_ofNat']; have := k.toNat_lt; omega), List.cons_append, List.take_append_drop]
      · have h1 := beN_lt (q.take k.toNat)
        rw [hl] at h1
        exact Nat.lt_of_lt_of_le h1 (Nat.le_trans (Nat.pow_le_pow_right (by omega) (show k.toNat ≤ 8 by omega)) (by decide))
theorem zig_unzig (n : Nat) : zig (unzig n) = n := by
  unfold zig unzig
  split <;> split <;> omega
mutual
def VB : Va → Prop
  | .num n => in64 n
  | .txt s => s.size ≤ 4096
  | .lst l => VBL l
def VBL : List Va → Prop
  | [] => True
  | v :: l => VB v ∧ VBL l
end
theorem itemsP_canon {f : Nat → List UInt8 → Option (Va × Nat × List UInt8)} (hf : ∀ left ls v l r, f left ls = some (v, l, r) → ls = encV v ++ r ∧ VB v) : ∀ (n left : Nat) (ls : List UInt8) (vs : List Va) (l : Nat) (r : List UInt8), itemsP f n left ls = some (vs, l, r) → vs.length = n ∧ ls = encVL vs ++ r ∧ VBL vs
  | 0, left, ls, vs, l, r, h => by
    simp only [itemsP, Option.some.injEq, Prod.mk.injEq] at h
    obtain ⟨rfl, rfl, rfl⟩ := h
    exact ⟨rfl, rfl, trivial⟩
  | n + 1, left, ls, vs, l, r, h => by
    rw [itemsP] at h
    cases h1 : f left ls with
    | none => rw [h1] at h; cases h
    | some q =>
      obtain ⟨v, l1, r1⟩ := q
      rw [h1] at h
      dsimp only at h
      cases h2 : itemsP f n l1 r1 with
      | none => rw [h2] at h; cases h
      | some q2 =>
        obtain ⟨vs2, l2, r2⟩ := q2
        rw [h2] at h
        simp only [Option.some.injEq, Prod.mk.injEq] at h
        obtain ⟨rfl, rfl, rfl⟩ := h
        obtain ⟨a1, a2⟩ := hf _ _ _ _ _ h1
        obtain ⟨b1, b2, b3⟩ := itemsP_canon hf n _ _ _ _ _ h2
        refine ⟨by rw [List.length_cons, b1], ?_, ?_⟩
        · rw [a1, b2, encVL, List.append_assoc]
        · rw [VBL]; exact ⟨a2, b3⟩
theorem sizeP_canon {ls r : List UInt8} {n : Nat} (h : sizeP 4096 ls = some (n, r)) : ls = cntB n ++ r ∧ n ≤ 4096 := by
  unfold sizeP at h
  cases h1 : cntP ls with
  | none => rw [h1] at h; cases h
  | some q =>
    obtain ⟨m, r1⟩ := q
    rw [h1] at h
    dsimp only at h
    split at h
    · simp only [Option.some.injEq, Prod.mk.injEq] at h
      obtain ⟨rfl, rfl⟩ := h
      exact ⟨(cntP_canon h1).1, by assumption⟩
    · cases h
theorem itemP_canon : ∀ (d left : Nat) (ls : List UInt8) (v : Va) (l : Nat) (r : List UInt8), itemP d left ls = some (v, l, r) → ls = encV v ++ r ∧ VB v
  | 0, left, ls, v, l, r, h => by simp [itemP] at h
  | d + 1, 0, ls, v, l, r, h => by simp [itemP] at h
  | d + 1, left + 1, [], v, l, r, h => by simp [itemP] at h
  | d + 1, left + 1, k :: ls, v, l, r, h => by
    rw [itemP] at h
    split at h
    · rename_i hk
      subst hk
      cases h1 : cntP ls with
      | none => rw [h1] at h; cases h
      | some q =>
        obtain ⟨n, r1⟩ := q
        rw [h1] at h
        simp only [Option.some.injEq, Prod.mk.injEq] at h
        obtain ⟨rfl, rfl, rfl⟩ := h
        obtain ⟨c1, c2⟩ := cntP_canon h1
        refine ⟨?_, ?_⟩
        · rw [encV, zig_unzig, c1, List.cons_append]
        · rw [VB]; unfold in64 unzig; split <;> omega
    · split at h
      · rename_i hk
        subst hk
        cases h1 : sizeP 4096 ls with
        | none => rw [h1] at h; cases h
        | some q =>
          obtain ⟨n, r1⟩ := q
          rw [h1] at h
          dsimp only at h
          split at h
          · rename_i hn
            simp only [Option.some.injEq, Prod.mk.injEq] at h
            obtain ⟨rfl, rfl, rfl⟩ := h
            obtain ⟨c1, c2⟩ := sizeP_canon h1
            have hsz : (⟨(r1.take n).toArray⟩ : ByteArray).size = n := by
              show (r1.take n).toArray.size = n
              rw [List.size_toArray, List.length_take]; omega
            refine ⟨?_, ?_⟩
            · rw [encV, hsz, c1]
              simp
            · rw [VB, hsz]; exact c2
          · cases h
      · split at h
        · rename_i hk
          subst hk
          cases h1 : sizeP 4096 ls with
          | none => rw [h1] at h; cases h
          | some q =>
            obtain ⟨n, r1⟩ := q
            rw [h1] at h
            dsimp only at h
            cases h2 : itemsP (itemP d) n left r1 with
            | none => rw [h2] at h; cases h
            | some q2 =>
              obtain ⟨vs, l2, r2⟩ := q2
              rw [h2] at h
              simp only [Option.some.injEq, Prod.mk.injEq] at h
              obtain ⟨rfl, rfl, rfl⟩ := h
              obtain ⟨c1, c2⟩ := sizeP_canon h1
              obtain ⟨e1, e2, e3⟩ := itemsP_canon (itemP_canon d) _ _ _ _ _ _ h2
              refine ⟨?_, ?_⟩
              · rw [encV, e1, c1, e2, List.cons_append, List.cons_append, List.append_assoc]
              · rw [VB]; exact e3
        · cases h
def dB (n : Int) : List UInt8 := encV (.lst [.num 4, .num 0, .num 0, .num n, .txt ⟨#[]⟩])
theorem decO_dB : ∀ n : Fin 127, decO ⟨(dB ((n.1 + 1 : Nat) : Int)).toArray⟩ = some ((n.1 + 1 : Nat) : Int) := by decide +kernel
theorem decO_some {d : ByteArray} {n : Int} (h : decO d = some n) : d.data.toList = dB n ∧ 1 ≤ n ∧ n ≤ 127 := by
  unfold decO at h
  split at h
  · rename_i v l hi
    obtain ⟨h1, -⟩ := itemP_canon _ _ _ _ _ _ hi
    rw [List.append_nil] at h1
    unfold decV at h
    split at h
    · split at h
      · rename_i hh
        simp only [Option.some.injEq] at h
        subst h
        obtain ⟨rfl, rfl, rfl, q1, q2, rfl⟩ := hh
        exact ⟨h1, q1, q2⟩
      · cases h
    · cases h
  · cases h
theorem decO_is {d : ByteArray} {n : Int} (h1 : 1 ≤ n) (h2 : n ≤ 127) (h : d.data.toList = dB n) : decO d = some n := by
  obtain ⟨k, rfl⟩ : ∃ k : Fin 127, n = ((k.1 + 1 : Nat) : Int) := ⟨⟨(n - 1).toNat, by omega⟩, by dsimp only; omega⟩
  have := decO_dB k
  rw [← h] at this
  exact this
mutual
theorem vb_ran : ∀ (t : IA), VB (plI t) → ranI t
  | .num n a c, h => by simp only [plI, VB] at h; rw [ranI]; exact h
  | .txt s a c, h => by rw [ranI]; trivial
  | .lst a c l, h => by simp only [plI, VB] at h; rw [ranI]; exact vb_ranL l h
theorem vb_ranL : ∀ (l : List IA), VBL (plIL l) → ranIL l
  | [], h => by rw [ranIL]; trivial
  | t :: l, h => by simp only [plIL, VBL] at h; rw [ranIL]; exact ⟨vb_ran t h.1, vb_ranL l h.2⟩
end
theorem vb_str {t : IA} (h : VB (plI t)) : (strI t).size ≤ 4096 := by
  cases t with
  | num n a c => exact Nat.zero_le _
  | txt s a c => simp only [plI, VB] at h; exact h
  | lst a c l => exact Nat.zero_le _
theorem vbl_at : ∀ {l : List IA} {t : IA} {i : Nat}, VBL (plIL l) → l[i]? = some t → VB (plI t)
  | x :: l, t, 0, h, ht => by simp at ht; subst ht; simp only [plIL, VBL] at h; exact h.1
  | x :: l, t, i + 1, h, ht => by simp only [plIL, VBL] at h; exact vbl_at (l := l) (t := t) (i := i) h.2 (by simpa using ht)
theorem vb_at {t t' : IA} {i : Nat} (h : VB (plI t)) (ht : (lsI t)[i]? = some t') : VB (plI t') := by
  cases t with
  | num n a c => simp [lsI] at ht
  | txt n a c => simp [lsI] at ht
  | lst a c l => simp only [plI, VB] at h; exact vbl_at h ht
end Go.Proofs.Ytnmfpgfgjjmfhaa
end

section
set_option linter.unusedVariables false
set_option linter.unusedSimpArgs false
set_option maxRecDepth 100000
namespace Go.Proofs.Ytnmfpgfgjjmfhaa
open Go
attribute [local irreducible] Exit.then Exit.inBlock Code.wp runS bodyPost postF J runT cutQ cutR Tr Sat blk Sl Old Star Ex Pu
attribute [local irreducible] ItH ItHL
def adP : Value → Nat
  | .pointer (some a) => a.block
  | _ => 0
def PtI (t' : IA) (M : List HP) (v : Value) : Prop := ∃ (b o : Nat), v = .pointer (some ⟨b, o, none⟩) ∧ ∀ (q : Nat) (u : Value), (cellsI t')[q]? = some u → Sees M (fun w => w.cell? ⟨b, o + q, none⟩ = some u)
def PtF (t' : IA) (k : Nat) (M : List HP) (v : Value) : Prop := ∃ (b o : Nat), v = .pointer (some ⟨b, o + k, none⟩) ∧ ∀ (q : Nat) (u : Value), (cellsI t')[q]? = some u → Sees M (fun w => w.cell? ⟨b, o + q, none⟩ = some u)
def CmB (c : Cm) : Prop := c.nm.size ≤ 4096 ∧ c.oo.size ≤ 4096 ∧ in64 c.op ∧ in64 c.v.a ∧ in64 c.v.b ∧ in64 c.v.c ∧ in64 c.n
theorem zCB : CmB zC := by simp [CmB, zC, in64]; decide
theorem bdec_spec (s : ByteArray) (hs : s.size ≤ 4096) (Lp : List HP) : Tr Try.prog 42 [.string s] Lp (fun v M => (∃ (c : Cm) (e : Int), v = .tuple #[.agg (Enc.enc c).toArray, .int .i64 e] ∧ CmB c ∧ (e = 0 → 1 ≤ c.op ∧ s ≠ ⟨#[]⟩)) ∧ M = Lp) := by
  refine tr_enter Try.func42 rfl Try.ntmps42 rfl (fun F => ?_)
  repeat' (first | (show J _ _ _ (runS _ _ _ _ (⟨_, _, _, _, _, none⟩ :: _)); first | (show J _ _ _ (runS _ _ _ _ (⟨_, .move _, _, _, _, _⟩ :: _)); refine j_move rfl rfl ?_) | (show J _ _ _ (runS _ _ _ _ (⟨_, .assign _, _, _, _, _⟩ :: _)); refine j_assign rfl rfl ?_) | (show J _ _ _ (runS _ _ _ _ (⟨_, .alloc _, _, _, _, _⟩ :: _)); refine j_alloc rfl (fun b => ?_))) | refine j_nil ?_ | (show J _ _ _ (Code.wp _ _ _); first | refine j_seq ?_ | refine j_region ?_) | refine j_then ?_)
  obtain ⟨b2, hb2⟩ : ∃ b', b' = b := ⟨_, rfl⟩
  subst hb2
  have hsl : s.data.toList.length = s.size := Array.length_toList
  refine j_strBytes rfl rfl (fun b1 c1 junk hc1 => ?_)
  (refine j_call rfl rfl (cdec_spec (some ⟨b1, 0, none⟩) c1 s.data.toList hc1 (by omega) [blk b1 5 (byteRow s.data.toList junk)] sees_row) ((by repeat ((exact .refl)))) rfl (fun v M N h hN => ?_); obtain (⟨t, left', h1, rfl, rfl⟩ | ⟨h1, rfl, rfl⟩) := h; (try simp only [List.nil_append, List.cons_append, List.append_assoc] at hN); subst hN)
  rotate_left
  · simp only [List.cons_append, List.nil_append] at hN
    subst hN
    repeat' (first | (show J _ _ _ (runS _ _ _ _ (⟨_, _, _, _, _, none⟩ :: _)); first | (show J _ _ _ (runS _ _ _ _ (⟨_, .move _, _, _, _, _⟩ :: _)); refine j_move rfl rfl ?_) | (show J _ _ _ (runS _ _ _ _ (⟨_, .binOp _ _ _ _ _, _, _, _, _⟩ :: _)); ((refine j_bin rfl rfl rfl rfl ?_))) | (show J _ _ _ (runS _ _ _ _ (⟨_, .assign _, _, _, _, _⟩ :: _)); refine j_assign rfl rfl ?_) | (show J _ _ _ (runS _ _ _ _ (⟨_, .store _ _ _, _, _, _, _⟩ :: _)); ((refine j_sets rfl rfl rfl (by rfl) (by repeat constructor) (by repeat constructor) (by rfl) ?_))) | (show J _ _ _ (runS _ _ _ _ (⟨_, .pick _ _ _, _, _, _, _⟩ :: _)); ((refine j_pick_t rfl rfl rfl ?_))) | (show J _ _ _ (runS _ _ _ _ (⟨_, .build _ _, _, _, _, _⟩ :: _)); refine j_build rfl (by repeat constructor) rfl ?_) | (show J _ _ _ (runS _ _ _ _ (⟨_, .extract _ _, _, _, _, _⟩ :: _)); refine j_extract rfl rfl rfl ?_) | (show J _ _ _ (runS _ _ _ _ (⟨_, .alloc _, _, _, _, _⟩ :: _)); refine j_alloc rfl (fun b => ?_))) | refine j_nil ?_ | (show J _ _ _ (runS _ _ _ _ (⟨_, _, _, _, _, some _⟩ :: _)); (refine j_gno_u rfl rfl rfl rfl ?_)) | (show J _ _ _ (Code.wp _ _ _); first | refine j_seq ?_ | refine j_region ?_ | (show J _ _ _ (Code.wp _ (.cond _ _ _) _); (refine j_true rfl ?_)) | refine j_ret ?_) | refine j_then ?_ | refine j_then_ret ?_)
    exact j_retc2 [.int .i64 0, .string ⟨#[]⟩, .string ⟨#[]⟩, .int .i64 0, .int .i64 0, .int .i64 0, .int .i64 0] rfl rfl rfl (by repeat constructor) rfl ⟨rfl, rfl, rfl, rfl, rfl, rfl, rfl, trivial⟩ rfl (M := Lp) (by repeat (first | exact .refl | refine .drop ?_)) ⟨⟨zC, 4, rfl, zCB, fun h => absurd h (by decide)⟩, rfl⟩
  have hvb := (itemP_canon _ _ _ _ _ _ h1).2
  have hlm := pl_len h1
  have hok : Sees [ItH t] (fun w => OkI w t) := sees_it .z
  have hse : s ≠ ⟨#[]⟩ := fun h => by
    subst h
    exact absurd (show itemP 12 4096 [] = some (plI t, left', []) from h1) (by simp [itemP])
  rw [cells_is t]
  repeat' (first | (show J _ _ _ (runS _ _ _ _ (⟨_, _, _, _, _, none⟩ :: _)); first | (show J _ _ _ (runS _ _ _ _ (⟨_, .move _, _, _, _, _⟩ :: _)); refine j_move rfl rfl ?_) | (show J _ _ _ (runS _ _ _ _ (⟨_, .load _ _, _, _, _, _⟩ :: _)); ((refine j_load rfl rfl (by repeat constructor) rfl rfl ?_))) | (show J _ _ _ (runS _ _ _ _ (⟨_, .fieldAddr _ _ _, _, _, _, _⟩ :: _)); refine j_fieldAddr rfl rfl ?_) | (show J _ _ _ (runS _ _ _ _ (⟨_, .binOp _ _ _ _ _, _, _, _, _⟩ :: _)); ((refine j_bin rfl rfl rfl rfl ?_))) | (show J _ _ _ (runS _ _ _ _ (⟨_, .assign _, _, _, _, _⟩ :: _)); refine j_assign rfl rfl ?_) | (show J _ _ _ (runS _ _ _ _ (⟨_, .store _ _ _, _, _, _, _⟩ :: _)); ((refine j_sets rfl rfl rfl (by rfl) (by repeat constructor) (by repeat constructor) (by rfl) ?_))) | (show J _ _ _ (runS _ _ _ _ (⟨_, .pick _ _ _, _, _, _, _⟩ :: _)); (first | refine j_pick_t rfl rfl rfl ?_ | refine j_pick_f rfl rfl rfl ?_)) | (show J _ _ _ (runS _ _ _ _ (⟨_, .call ⟨.builtin .len, _, _⟩, _, _, _, _⟩ :: _)); ((refine j_len rfl rfl ?_))) | (show J _ _ _ (runS _ _ _ _ (⟨_, .build _ _, _, _, _, _⟩ :: _)); refine j_build rfl (by repeat constructor) rfl ?_) | (show J _ _ _ (runS _ _ _ _ (⟨_, .extract _ _, _, _, _, _⟩ :: _)); refine j_extract rfl rfl rfl ?_) | (show J _ _ _ (runS _ _ _ _ (⟨_, .alloc _, _, _, _, _⟩ :: _)); refine j_alloc rfl (fun b => ?_))) | refine j_nil ?_ | (show J _ _ _ (runS _ _ _ _ (⟨_, _, _, _, _, some _⟩ :: _)); first | refine j_gno_u rfl rfl rfl rfl ?_ | refine j_gyes rfl rfl rfl ?_ | refine j_gsplit_dec rfl rfl (fun h => ?_) (fun h => ?_)) | (show J _ _ _ (Code.wp _ _ _); first | refine j_seq ?_ | refine j_region ?_ | (show J _ _ _ (Code.wp _ (.cond _ _ _) _); (refine j_true rfl ?_)) | refine j_ret ?_) | refine j_then ?_ | refine j_then_ret ?_)
  · exact j_retc2 [.int .i64 0, .string ⟨#[]⟩, .string ⟨#[]⟩, .int .i64 0, .int .i64 0, .int .i64 0, .int .i64 0] rfl rfl rfl (by repeat constructor) rfl ⟨rfl, rfl, rfl, rfl, rfl, rfl, rfl, trivial⟩ rfl (M := Lp) (by repeat (first | exact .refl | refine .drop ?_)) ⟨⟨zC, 4, rfl, zCB, fun h => absurd h (by decide)⟩, rfl⟩
  have hl5 : (lsI t).length = 5 := by omega
  obtain ⟨t0, t1, t2, t3, t4, hts⟩ := list5' hl5
  refine j_idx (α := IA) (M := [ItH t]) rfl rfl (by repeat (first | exact .refl | apply Pk.cons | constructor)) hok.ok_vw rfl 0 rfl (by omega) rfl (fun b3 o3 ha3 hc3 => ?_)
  repeat' (first | (show J _ _ _ (runS _ _ _ _ (⟨_, _, _, _, _, none⟩ :: _)); (show J _ _ _ (runS _ _ _ _ (⟨_, .fieldAddr _ _ _, _, _, _, _⟩ :: _)); refine j_fieldAddr rfl rfl ?_)) | (show J _ _ _ (runS _ _ _ _ (⟨_, _, _, _, _, some _⟩ :: _)); (refine j_gyes rfl rfl rfl ?_)))
  refine j_loadv (M := [ItH t]) (v := .int .i64 (numI t0)) rfl rfl (by repeat (first | exact .refl | apply Pk.cons | constructor)) (hc3 1 _ (by show (cellsI (lsI t)[0])[1]? = _; rw [show (lsI t)[0] = t0 from by simp [hts], cells_is]; rfl)) rfl ?_
  repeat' (first | (show J _ _ _ (runS _ _ _ _ (⟨_, _, _, _, _, none⟩ :: _)); first | (show J _ _ _ (runS _ _ _ _ (⟨_, .move _, _, _, _, _⟩ :: _)); refine j_move rfl rfl ?_) | (show J _ _ _ (runS _ _ _ _ (⟨_, .load _ _, _, _, _, _⟩ :: _)); ((refine j_load rfl rfl (by repeat constructor) rfl rfl ?_))) | (show J _ _ _ (runS _ _ _ _ (⟨_, .fieldAddr _ _ _, _, _, _, _⟩ :: _)); refine j_fieldAddr rfl rfl ?_) | (show J _ _ _ (runS _ _ _ _ (⟨_, .binOp _ _ _ _ _, _, _, _, _⟩ :: _)); ((refine j_bin rfl rfl rfl rfl ?_))) | (show J _ _ _ (runS _ _ _ _ (⟨_, .assign _, _, _, _, _⟩ :: _)); refine j_assign rfl rfl ?_) | (show J _ _ _ (runS _ _ _ _ (⟨_, .store _ _ _, _, _, _, _⟩ :: _)); ((refine j_sets rfl rfl rfl (by rfl) (by repeat constructor) (by repeat constructor) (by rfl) ?_))) | (show J _ _ _ (runS _ _ _ _ (⟨_, .pick _ _ _, _, _, _, _⟩ :: _)); (first | refine j_pick_t rfl rfl rfl ?_ | refine j_pick_f rfl rfl rfl ?_)) | (show J _ _ _ (runS _ _ _ _ (⟨_, .build _ _, _, _, _, _⟩ :: _)); refine j_build rfl (by repeat constructor) rfl ?_)) | refine j_nil ?_ | (show J _ _ _ (runS _ _ _ _ (⟨_, _, _, _, _, some _⟩ :: _)); first | refine j_gno_u rfl rfl rfl rfl ?_ | refine j_gyes rfl rfl rfl ?_ | refine j_gsplit_dec rfl rfl (fun h => ?_) (fun h => ?_)) | (show J _ _ _ (Code.wp _ _ _); first | refine j_seq ?_ | refine j_region ?_ | (show J _ _ _ (Code.wp _ (.cond _ _ _) _); (refine j_true rfl ?_)) | refine j_ret ?_) | refine j_then ?_ | refine j_then_ret ?_)
  · exact j_retc2 [.int .i64 0, .string ⟨#[]⟩, .string ⟨#[]⟩, .int .i64 0, .int .i64 0, .int .i64 0, .int .i64 0] rfl rfl rfl (by repeat constructor) rfl ⟨rfl, rfl, rfl, rfl, rfl, rfl, rfl, trivial⟩ rfl (M := Lp) (by repeat (first | exact .refl | refine .drop ?_)) ⟨⟨zC, 4, rfl, zCB, fun h => absurd h (by decide)⟩, rfl⟩
  refine j_idx (α := IA) (M := [ItH t]) rfl rfl (by repeat (first | exact .refl | apply Pk.cons | constructor)) hok.ok_vw rfl 0 rfl (by omega) rfl (fun b3 o3 ha3 hc3 => ?_)
  repeat' (first | (show J _ _ _ (runS _ _ _ _ (⟨_, _, _, _, _, none⟩ :: _)); (show J _ _ _ (runS _ _ _ _ (⟨_, .fieldAddr _ _ _, _, _, _, _⟩ :: _)); refine j_fieldAddr rfl rfl ?_)) | (show J _ _ _ (runS _ _ _ _ (⟨_, _, _, _, _, some _⟩ :: _)); (refine j_gyes rfl rfl rfl ?_)))
  refine j_loadv (M := [ItH t]) (v := .int .i64 (numI t0)) rfl rfl (by repeat (first | exact .refl | apply Pk.cons | constructor)) (hc3 1 _ (by show (cellsI (lsI t)[0])[1]? = _; rw [show (lsI t)[0] = t0 from by simp [hts], cells_is]; rfl)) rfl ?_
  repeat' (first | (show J _ _ _ (runS _ _ _ _ (⟨_, _, _, _, _, none⟩ :: _)); first | (show J _ _ _ (runS _ _ _ _ (⟨_, .binOp _ _ _ _ _, _, _, _, _⟩ :: _)); ((refine j_bin rfl rfl rfl rfl ?_))) | (show J _ _ _ (runS _ _ _ _ (⟨_, .assign _, _, _, _, _⟩ :: _)); refine j_assign rfl rfl ?_) | (show J _ _ _ (runS _ _ _ _ (⟨_, .store _ _ _, _, _, _, _⟩ :: _)); ((refine j_sets rfl rfl rfl (by rfl) (by repeat constructor) (by repeat constructor) (by rfl) ?_))) | (show J _ _ _ (runS _ _ _ _ (⟨_, .pick _ _ _, _, _, _, _⟩ :: _)); ((refine j_pick_f rfl rfl rfl ?_))) | (show J _ _ _ (runS _ _ _ _ (⟨_, .build _ _, _, _, _, _⟩ :: _)); refine j_build rfl (by repeat constructor) rfl ?_)) | refine j_nil ?_ | (show J _ _ _ (runS _ _ _ _ (⟨_, _, _, _, _, some _⟩ :: _)); (refine j_gyes rfl rfl rfl ?_)) | (show J _ _ _ (Code.wp _ _ _); first | refine j_seq ?_ | refine j_region ?_ | (show J _ _ _ (Code.wp _ (.cond _ _ _) _); (refine j_dec rfl (fun h => ?_) (fun h => ?_))) | refine j_ret ?_ | refine j_skip ?_) | refine j_then ?_ | refine j_then_ret ?_)
  · exact j_retc2 [.int .i64 0, .string ⟨#[]⟩, .string ⟨#[]⟩, .int .i64 0, .int .i64 0, .int .i64 0, .int .i64 0] rfl rfl rfl (by repeat constructor) rfl ⟨rfl, rfl, rfl, rfl, rfl, rfl, rfl, trivial⟩ rfl (M := Lp) (by repeat (first | exact .refl | refine .drop ?_)) ⟨⟨zC, 4, rfl, zCB, fun h => absurd h (by decide)⟩, rfl⟩
  obtain ⟨b4, hb4⟩ : ∃ b', b' = b := ⟨_, rfl⟩
  subst hb4
  have g : ∀ i, (h : i < 5) → (lsI t)[i]? = some ((lsI t)[i]'(by omega)) := fun i h => List.getElem?_eq_getElem (by omega)
  have hg0 : (lsI t)[0]? = some t0 := by rw [hts]; rfl
  have hg1 : (lsI t)[1]? = some t1 := by rw [hts]; rfl
  have hg2 : (lsI t)[2]? = some t2 := by rw [hts]; rfl
  have hg3 : (lsI t)[3]? = some t3 := by rw [hts]; rfl
  have hg4 : (lsI t)[4]? = some t4 := by rw [hts]; rfl
  have hn0 := ran_num (vb_ran _ (vb_at hvb hg0))
  have hn4 := ran_num (vb_ran _ (vb_at hvb hg4))
  have hs1 := vb_str (vb_at hvb hg1)
  have hs2 := vb_str (vb_at hvb hg2)
  have hr3 := vb_ran _ (vb_at hvb hg3)
  refine j_inv [40, 41, 42, 43, 44, 45, 46, 47, 48, 49, 50, 51, 52, 53, 54, 55, 56, 57, 58, 59, 60, 61, 62, 63, 64, 65, 6] [[], [0], [1], [2], [3], [], [5], [6], [7], [8], [], [10], [11], [12], [13], [], [15], [16], [17], [18], [], [20], [21], [22], [23], [4, 9, 14, 19, 24], []] (.take 27 (.done)) ([(0, .string s), (2, .pointer (some ⟨b2, 0, none⟩)), (4, .pointer (some ⟨b4, 0, none⟩))]) (fun i x v => match i with
    | 0 => v = .pointer (some ⟨b4, 0 + 3, none⟩)
    | 1 => v = .slice (adI t) (lsI t).length (cpI t)
    | 2 => PtI t0 [ItH t] v
    | 3 => PtF t0 1 [ItH t] v
    | 4 => v = .int .i64 (numI t0)
    | 5 => v = .pointer (some ⟨b4, 0 + 3, none⟩)
    | 6 => v = .slice (adI t) (lsI t).length (cpI t)
    | 7 => PtI t1 [ItH t] v
    | 8 => PtF t1 2 [ItH t] v
    | 9 => v = .string (strI t1)
    | 10 => v = .pointer (some ⟨b4, 0 + 3, none⟩)
    | 11 => v = .slice (adI t) (lsI t).length (cpI t)
    | 12 => PtI t2 [ItH t] v
    | 13 => PtF t2 2 [ItH t] v
    | 14 => v = .string (strI t2)
    | 15 => v = .pointer (some ⟨b4, 0 + 3, none⟩)
    | 16 => v = .slice (adI t) (lsI t).length (cpI t)
    | 17 => PtI t3 [ItH t] v
    | 18 => v = .agg (cellsI t3).toArray
    | 19 => ∃ u : V3, v = .agg #[.int .i64 u.a, .int .i64 u.b, .int .i64 u.c] ∧ in64 u.a ∧ in64 u.b ∧ in64 u.c
    | 20 => v = .pointer (some ⟨b4, 0 + 3, none⟩)
    | 21 => v = .slice (adI t) (lsI t).length (cpI t)
    | 22 => PtI t4 [ItH t] v
    | 23 => PtF t4 1 [ItH t] v
    | 24 => v = .int .i64 (numI t4)
    | 25 => ∃ c : Cm, v = .agg (Enc.enc c).toArray ∧ CmB c
    | _ => ∃ b, v = .pointer (some ⟨b, 0, none⟩)) 26 (fun v => [blk (adP v) 44 [.int .i64 0, .string ⟨#[]⟩, .string ⟨#[]⟩, .int .i64 0, .int .i64 0, .int .i64 0, .int .i64 0]]) (by decide +kernel) ⟨rfl, rfl, rfl, trivial⟩ rfl ?_ ?_
  · refine ⟨fun x G hG hf => ?_, fun x G hG hf => ?_, fun x G hG hf => ?_, fun x G hG hf => ?_, fun x G hG hf => ?_, fun x G hG hf => ?_, fun x G hG hf => ?_, fun x G hG hf => ?_, fun x G hG hf => ?_, fun x G hG hf => ?_, fun x G hG hf => ?_, fun x G hG hf => ?_, fun x G hG hf => ?_, fun x G hG hf => ?_, fun x G hG hf => ?_, fun x G hG hf => ?_, fun x G hG hf => ?_, fun x G hG hf => ?_, fun x G hG hf => ?_, fun x G hG hf => ?_, fun x G hG hf => ?_, fun x G hG hf => ?_, fun x G hG hf => ?_, fun x G hG hf => ?_, fun x G hG hf => ?_, fun x G hG hf => ?_, fun x G hG hf => ?_, trivial⟩
    all_goals rcases hG with rfl | ⟨g, rfl⟩
    · repeat' (first | (show J _ _ _ (runS _ _ _ _ (⟨_, _, _, _, _, none⟩ :: _)); (show J _ _ _ (runS _ _ _ _ (⟨_, .fieldAddr _ _ _, _, _, _, _⟩ :: _)); refine j_fieldAddr rfl rfl ?_)) | refine j_nil ?_)
      exact j_endI _ rfl rfl (by repeat ((exact .refl)))
    · repeat' (first | (show J _ _ _ (runS _ _ _ _ (⟨_, _, _, _, _, none⟩ :: _)); (show J _ _ _ (runS _ _ _ _ (⟨_, .fieldAddr _ _ _, _, _, _, _⟩ :: _)); refine j_fieldAddr rfl rfl ?_)) | refine j_nil ?_)
      exact j_endI _ rfl rfl (by repeat ((exact .refl)))
    · (obtain ⟨h0, -⟩ := hf; have h0 : x 0 = _ := h0; show J _ ((40, x 0) :: _) _ _; rw [h0])
      repeat' (first | (show J _ _ _ (runS _ _ _ _ (⟨_, _, _, _, _, none⟩ :: _)); (show J _ _ _ (runS _ _ _ _ (⟨_, .load _ _, _, _, _, _⟩ :: _)); ((refine j_load rfl rfl (by repeat constructor) rfl rfl ?_)))) | refine j_nil ?_)
      exact j_endI _ rfl rfl (by repeat ((exact .refl)))
    · (obtain ⟨h0, -⟩ := hf; have h0 : x 0 = _ := h0; show J _ ((40, x 0) :: _) _ _; rw [h0])
      repeat' (first | (show J _ _ _ (runS _ _ _ _ (⟨_, _, _, _, _, none⟩ :: _)); (show J _ _ _ (runS _ _ _ _ (⟨_, .load _ _, _, _, _, _⟩ :: _)); ((refine j_load rfl rfl (by repeat constructor) rfl rfl ?_)))) | refine j_nil ?_)
      exact j_endI _ rfl rfl (by repeat ((exact .refl)))
    · (obtain ⟨h0, -⟩ := hf; have h0 : x 1 = _ := h0; show J _ ((41, x 1) :: _) _ _; rw [h0])
      refine j_idx (α := IA) (M := [ItH t]) rfl rfl (by repeat (first | exact .refl | apply Pk.cons | constructor)) hok.ok_vw rfl 0 rfl (by omega) rfl (fun b3 o3 ha3 hc3 => ?_)
      refine j_nil ?_
      exact j_endI _ rfl ⟨b3, _, rfl, fun q u hu => hc3 q u (by rw [show (lsI t)[0] = t0 from by simp [hts]]; exact hu)⟩ (by repeat ((exact .refl)))
    · (obtain ⟨h0, -⟩ := hf; have h0 : x 1 = _ := h0; show J _ ((41, x 1) :: _) _ _; rw [h0])
      refine j_idx (α := IA) (M := [ItH t]) rfl rfl (by repeat (first | exact .refl | apply Pk.cons | constructor)) hok.ok_vw rfl 0 rfl (by omega) rfl (fun b3 o3 ha3 hc3 => ?_)
      refine j_nil ?_
      exact j_endI _ rfl ⟨b3, _, rfl, fun q u hu => hc3 q u (by rw [show (lsI t)[0] = t0 from by simp [hts]]; exact hu)⟩ (by repeat ((exact .refl)))
    · obtain ⟨⟨pb, po, h0, hq⟩, -⟩ := hf
      have h0 : x 2 = _ := h0
      show J _ ((42, x 2) :: _) _ _
      rw [h0]
      repeat' (first | (show J _ _ _ (runS _ _ _ _ (⟨_, _, _, _, _, none⟩ :: _)); (show J _ _ _ (runS _ _ _ _ (⟨_, .fieldAddr _ _ _, _, _, _, _⟩ :: _)); refine j_fieldAddr rfl rfl ?_)) | refine j_nil ?_)
      exact j_endI _ rfl ⟨pb, po, rfl, hq⟩ (by repeat ((exact .refl)))
    · obtain ⟨⟨pb, po, h0, hq⟩, -⟩ := hf
      have h0 : x 2 = _ := h0
      show J _ ((42, x 2) :: _) _ _
      rw [h0]
      repeat' (first | (show J _ _ _ (runS _ _ _ _ (⟨_, _, _, _, _, none⟩ :: _)); (show J _ _ _ (runS _ _ _ _ (⟨_, .fieldAddr _ _ _, _, _, _, _⟩ :: _)); refine j_fieldAddr rfl rfl ?_)) | refine j_nil ?_)
      exact j_endI _ rfl ⟨pb, po, rfl, hq⟩ (by repeat ((exact .refl)))
    · obtain ⟨⟨pb, po, h0, hq⟩, -⟩ := hf
      have h0 : x 3 = _ := h0
      show J _ ((43, x 3) :: _) _ _
      rw [h0]
      refine j_loadv (M := [ItH t]) (v := .int .i64 (numI t0)) rfl rfl (by repeat (first | exact .refl | apply Pk.cons | constructor)) (hq 1 _ (by rw [cells_is]; rfl)) rfl ?_
      refine j_nil ?_
      exact j_endI _ rfl rfl (by repeat ((exact .refl)))
    · obtain ⟨⟨pb, po, h0, hq⟩, -⟩ := hf
      have h0 : x 3 = _ := h0
      show J _ ((43, x 3) :: _) _ _
      rw [h0]
      refine j_loadv (M := [ItH t]) (v := .int .i64 (numI t0)) rfl rfl (by repeat (first | exact .refl | apply Pk.cons | constructor)) (hq 1 _ (by rw [cells_is]; rfl)) rfl ?_
      refine j_nil ?_
      exact j_endI _ rfl rfl (by repeat ((exact .refl)))
    · repeat' (first | (show J _ _ _ (runS _ _ _ _ (⟨_, _, _, _, _, none⟩ :: _)); (show J _ _ _ (runS _ _ _ _ (⟨_, .fieldAddr _ _ _, _, _, _, _⟩ :: _)); refine j_fieldAddr rfl rfl ?_)) | refine j_nil ?_)
      exact j_endI _ rfl rfl (by repeat ((exact .refl)))
    · repeat' (first | (show J _ _ _ (runS _ _ _ _ (⟨_, _, _, _, _, none⟩ :: _)); (show J _ _ _ (runS _ _ _ _ (⟨_, .fieldAddr _ _ _, _, _, _, _⟩ :: _)); refine j_fieldAddr rfl rfl ?_)) | refine j_nil ?_)
      exact j_endI _ rfl rfl (by repeat ((exact .refl)))
    · (obtain ⟨h0, -⟩ := hf; have h0 : x 5 = _ := h0; show J _ ((45, x 5) :: _) _ _; rw [h0])
      repeat' (first | (show J _ _ _ (runS _ _ _ _ (⟨_, _, _, _, _, none⟩ :: _)); (show J _ _ _ (runS _ _ _ _ (⟨_, .load _ _, _, _, _, _⟩ :: _)); ((refine j_load rfl rfl (by repeat constructor) rfl rfl ?_)))) | refine j_nil ?_)
      exact j_endI _ rfl rfl (by repeat ((exact .refl)))
    · (obtain ⟨h0, -⟩ := hf; have h0 : x 5 = _ := h0; show J _ ((45, x 5) :: _) _ _; rw [h0])
      repeat' (first | (show J _ _ _ (runS _ _ _ _ (⟨_, _, _, _, _, none⟩ :: _)); (show J _ _ _ (runS _ _ _ _ (⟨_, .load _ _, _, _, _, _⟩ :: _)); ((refine j_load rfl rfl (by repeat constructor) rfl rfl ?_)))) | refine j_nil ?_)
      exact j_endI _ rfl rfl (by repeat ((exact .refl)))
    · (obtain ⟨h0, -⟩ := hf; have h0 : x 6 = _ := h0; show J _ ((46, x 6) :: _) _ _; rw [h0])
      refine j_idx (α := IA) (M := [ItH t]) rfl rfl (by repeat (first | exact .refl | apply Pk.cons | constructor)) hok.ok_vw rfl 1 rfl (by omega) rfl (fun b3 o3 ha3 hc3 => ?_)
      refine j_nil ?_
      exact j_endI _ rfl ⟨b3, _, rfl, fun q u hu => hc3 q u (by rw [show (lsI t)[1] = t1 from by simp [hts]]; exact hu)⟩ (by repeat ((exact .refl)))
    · (obtain ⟨h0, -⟩ := hf; have h0 : x 6 = _ := h0; show J _ ((46, x 6) :: _) _ _; rw [h0])
      refine j_idx (α := IA) (M := [ItH t]) rfl rfl (by repeat (first | exact .refl | apply Pk.cons | constructor)) hok.ok_vw rfl 1 rfl (by omega) rfl (fun b3 o3 ha3 hc3 => ?_)
      refine j_nil ?_
      exact j_endI _ rfl ⟨b3, _, rfl, fun q u hu => hc3 q u (by rw [show (lsI t)[1] = t1 from by simp [hts]]; exact hu)⟩ (by repeat ((exact .refl)))
    · obtain ⟨⟨pb, po, h0, hq⟩, -⟩ := hf
      have h0 : x 7 = _ := h0
      show J _ ((47, x 7) :: _) _ _
      rw [h0]
      repeat' (first | (show J _ _ _ (runS _ _ _ _ (⟨_, _, _, _, _, none⟩ :: _)); (show J _ _ _ (runS _ _ _ _ (⟨_, .fieldAddr _ _ _, _, _, _, _⟩ :: _)); refine j_fieldAddr rfl rfl ?_)) | refine j_nil ?_)
      exact j_endI _ rfl ⟨pb, po, rfl, hq⟩ (by repeat ((exact .refl)))
    · obtain ⟨⟨pb, po, h0, hq⟩, -⟩ := hf
      have h0 : x 7 = _ := h0
      show J _ ((47, x 7) :: _) _ _
      rw [h0]
      repeat' (first | (show J _ _ _ (runS _ _ _ _ (⟨_, _, _, _, _, none⟩ :: _)); (show J _ _ _ (runS _ _ _ _ (⟨_, .fieldAddr _ _ _, _, _, _, _⟩ :: _)); refine j_fieldAddr rfl rfl ?_)) | refine j_nil ?_)
      exact j_endI _ rfl ⟨pb, po, rfl, hq⟩ (by repeat ((exact .refl)))
    · obtain ⟨⟨pb, po, h0, hq⟩, -⟩ := hf
      have h0 : x 8 = _ := h0
      show J _ ((48, x 8) :: _) _ _
      rw [h0]
      refine j_loadv (M := [ItH t]) (v := .string (strI t1)) rfl rfl (by repeat (first | exact .refl | apply Pk.cons | constructor)) (hq 2 _ (by rw [cells_is]; rfl)) rfl ?_
      refine j_nil ?_
      exact j_endI _ rfl rfl (by repeat ((exact .refl)))
    · obtain ⟨⟨pb, po, h0, hq⟩, -⟩ := hf
      have h0 : x 8 = _ := h0
      show J _ ((48, x 8) :: _) _ _
      rw [h0]
      refine j_loadv (M := [ItH t]) (v := .string (strI t1)) rfl rfl (by repeat (first | exact .refl | apply Pk.cons | constructor)) (hq 2 _ (by rw [cells_is]; rfl)) rfl ?_
      refine j_nil ?_
      exact j_endI _ rfl rfl (by repeat ((exact .refl)))
    · repeat' (first | (show J _ _ _ (runS _ _ _ _ (⟨_, _, _, _, _, none⟩ :: _)); (show J _ _ _ (runS _ _ _ _ (⟨_, .fieldAddr _ _ _, _, _, _, _⟩ :: _)); refine j_fieldAddr rfl rfl ?_)) | refine j_nil ?_)
      exact j_endI _ rfl rfl (by repeat ((exact .refl)))
    · repeat' (first | (show J _ _ _ (runS _ _ _ _ (⟨_, _, _, _, _, none⟩ :: _)); (show J _ _ _ (runS _ _ _ _ (⟨_, .fieldAddr _ _ _, _, _, _, _⟩ :: _)); refine j_fieldAddr rfl rfl ?_)) | refine j_nil ?_)
      exact j_endI _ rfl rfl (by repeat ((exact .refl)))
    · (obtain ⟨h0, -⟩ := hf; have h0 : x 10 = _ := h0; show J _ ((50, x 10) :: _) _ _; rw [h0])
      repeat' (first | (show J _ _ _ (runS _ _ _ _ (⟨_, _, _, _, _, none⟩ :: _)); (show J _ _ _ (runS _ _ _ _ (⟨_, .load _ _, _, _, _, _⟩ :: _)); ((refine j_load rfl rfl (by repeat constructor) rfl rfl ?_)))) | refine j_nil ?_)
      exact j_endI _ rfl rfl (by repeat ((exact .refl)))
    · (obtain ⟨h0, -⟩ := hf; have h0 : x 10 = _ := h0; show J _ ((50, x 10) :: _) _ _; rw [h0])
      repeat' (first | (show J _ _ _ (runS _ _ _ _ (⟨_, _, _, _, _, none⟩ :: _)); (show J _ _ _ (runS _ _ _ _ (⟨_, .load _ _, _, _, _, _⟩ :: _)); ((refine j_load rfl rfl (by repeat constructor) rfl rfl ?_)))) | refine j_nil ?_)
      exact j_endI _ rfl rfl (by repeat ((exact .refl)))
    · (obtain ⟨h0, -⟩ := hf; have h0 : x 11 = _ := h0; show J _ ((51, x 11) :: _) _ _; rw [h0])
      refine j_idx (α := IA) (M := [ItH t]) rfl rfl (by repeat (first | exact .refl | apply Pk.cons | constructor)) hok.ok_vw rfl 2 rfl (by omega) rfl (fun b3 o3 ha3 hc3 => ?_)
      refine j_nil ?_
      exact j_endI _ rfl ⟨b3, _, rfl, fun q u hu => hc3 q u (by rw [show (lsI t)[2] = t2 from by simp [hts]]; exact hu)⟩ (by repeat ((exact .refl)))
    · (obtain ⟨h0, -⟩ := hf; have h0 : x 11 = _ := h0; show J _ ((51, x 11) :: _) _ _; rw [h0])
      refine j_idx (α := IA) (M := [ItH t]) rfl rfl (by repeat (first | exact .refl | apply Pk.cons | constructor)) hok.ok_vw rfl 2 rfl (by omega) rfl (fun b3 o3 ha3 hc3 => ?_)
      refine j_nil ?_
      exact j_endI _ rfl ⟨b3, _, rfl, fun q u hu => hc3 q u (by rw [show (lsI t)[2] = t2 from by simp [hts]]; exact hu)⟩ (by repeat ((exact .refl)))
    · obtain ⟨⟨pb, po, h0, hq⟩, -⟩ := hf
      have h0 : x 12 = _ := h0
      show J _ ((52, x 12) :: _) _ _
      rw [h0]
      repeat' (first | (show J _ _ _ (runS _ _ _ _ (⟨_, _, _, _, _, none⟩ :: _)); (show J _ _ _ (runS _ _ _ _ (⟨_, .fieldAddr _ _ _, _, _, _, _⟩ :: _)); refine j_fieldAddr rfl rfl ?_)) | refine j_nil ?_)
      exact j_endI _ rfl ⟨pb, po, rfl, hq⟩ (by repeat ((exact .refl)))
    · obtain ⟨⟨pb, po, h0, hq⟩, -⟩ := hf
      have h0 : x 12 = _ := h0
      show J _ ((52, x 12) :: _) _ _
      rw [h0]
      repeat' (first | (show J _ _ _ (runS _ _ _ _ (⟨_, _, _, _, _, none⟩ :: _)); (show J _ _ _ (runS _ _ _ _ (⟨_, .fieldAddr _ _ _, _, _, _, _⟩ :: _)); refine j_fieldAddr rfl rfl ?_)) | refine j_nil ?_)
      exact j_endI _ rfl ⟨pb, po, rfl, hq⟩ (by repeat ((exact .refl)))
    · obtain ⟨⟨pb, po, h0, hq⟩, -⟩ := hf
      have h0 : x 13 = _ := h0
      show J _ ((53, x 13) :: _) _ _
      rw [h0]
      refine j_loadv (M := [ItH t]) (v := .string (strI t2)) rfl rfl (by repeat (first | exact .refl | apply Pk.cons | constructor)) (hq 2 _ (by rw [cells_is]; rfl)) rfl ?_
      refine j_nil ?_
      exact j_endI _ rfl rfl (by repeat ((exact .refl)))
    · obtain ⟨⟨pb, po, h0, hq⟩, -⟩ := hf
      have h0 : x 13 = _ := h0
      show J _ ((53, x 13) :: _) _ _
      rw [h0]
      refine j_loadv (M := [ItH t]) (v := .string (strI t2)) rfl rfl (by repeat (first | exact .refl | apply Pk.cons | constructor)) (hq 2 _ (by rw [cells_is]; rfl)) rfl ?_
      refine j_nil ?_
      exact j_endI _ rfl rfl (by repeat ((exact .refl)))
    · repeat' (first | (show J _ _ _ (runS _ _ _ _ (⟨_, _, _, _, _, none⟩ :: _)); (show J _ _ _ (runS _ _ _ _ (⟨_, .fieldAddr _ _ _, _, _, _, _⟩ :: _)); refine j_fieldAddr rfl rfl ?_)) | refine j_nil ?_)
      exact j_endI _ rfl rfl (by repeat ((exact .refl)))
    · repeat' (first | (show J _ _ _ (runS _ _ _ _ (⟨_, _, _, _, _, none⟩ :: _)); (show J _ _ _ (runS _ _ _ _ (⟨_, .fieldAddr _ _ _, _, _, _, _⟩ :: _)); refine j_fieldAddr rfl rfl ?_)) | refine j_nil ?_)
      exact j_endI _ rfl rfl (by repeat ((exact .refl)))
    · (obtain ⟨h0, -⟩ := hf; have h0 : x 15 = _ := h0; show J _ ((55, x 15) :: _) _ _; rw [h0])
      repeat' (first | (show J _ _ _ (runS _ _ _ _ (⟨_, _, _, _, _, none⟩ :: _)); (show J _ _ _ (runS _ _ _ _ (⟨_, .load _ _, _, _, _, _⟩ :: _)); ((refine j_load rfl rfl (by repeat constructor) rfl rfl ?_)))) | refine j_nil ?_)
      exact j_endI _ rfl rfl (by repeat ((exact .refl)))
    · (obtain ⟨h0, -⟩ := hf; have h0 : x 15 = _ := h0; show J _ ((55, x 15) :: _) _ _; rw [h0])
      repeat' (first | (show J _ _ _ (runS _ _ _ _ (⟨_, _, _, _, _, none⟩ :: _)); (show J _ _ _ (runS _ _ _ _ (⟨_, .load _ _, _, _, _, _⟩ :: _)); ((refine j_load rfl rfl (by repeat constructor) rfl rfl ?_)))) | refine j_nil ?_)
      exact j_endI _ rfl rfl (by repeat ((exact .refl)))
    · (obtain ⟨h0, -⟩ := hf; have h0 : x 16 = _ := h0; show J _ ((56, x 16) :: _) _ _; rw [h0])
      refine j_idx (α := IA) (M := [ItH t]) rfl rfl (by repeat (first | exact .refl | apply Pk.cons | constructor)) hok.ok_vw rfl 3 rfl (by omega) rfl (fun b3 o3 ha3 hc3 => ?_)
      refine j_nil ?_
      exact j_endI _ rfl ⟨b3, _, rfl, fun q u hu => hc3 q u (by rw [show (lsI t)[3] = t3 from by simp [hts]]; exact hu)⟩ (by repeat ((exact .refl)))
    · (obtain ⟨h0, -⟩ := hf; have h0 : x 16 = _ := h0; show J _ ((56, x 16) :: _) _ _; rw [h0])
      refine j_idx (α := IA) (M := [ItH t]) rfl rfl (by repeat (first | exact .refl | apply Pk.cons | constructor)) hok.ok_vw rfl 3 rfl (by omega) rfl (fun b3 o3 ha3 hc3 => ?_)
      refine j_nil ?_
      exact j_endI _ rfl ⟨b3, _, rfl, fun q u hu => hc3 q u (by rw [show (lsI t)[3] = t3 from by simp [hts]]; exact hu)⟩ (by repeat ((exact .refl)))
    · obtain ⟨⟨pb, po, h0, hq⟩, -⟩ := hf
      have h0 : x 17 = _ := h0
      show J _ ((57, x 17) :: _) _ _
      rw [h0]
      refine j_loadsv (M := [ItH t]) (cellsI t3) rfl (by rw [cells_is]; rfl) rfl (by repeat (first | exact .refl | apply Pk.cons | constructor)) (fun w hw q v hv => hq q v hv w hw) rfl ?_
      refine j_nil ?_
      exact j_endI _ rfl rfl (by repeat ((exact .refl)))
    · obtain ⟨⟨pb, po, h0, hq⟩, -⟩ := hf
      have h0 : x 17 = _ := h0
      show J _ ((57, x 17) :: _) _ _
      rw [h0]
      refine j_loadsv (M := [ItH t]) (cellsI t3) rfl (by rw [cells_is]; rfl) rfl (by repeat (first | exact .refl | apply Pk.cons | constructor)) (fun w hw q v hv => hq q v hv w hw) rfl ?_
      refine j_nil ?_
      exact j_endI _ rfl rfl (by repeat ((exact .refl)))
    · (obtain ⟨h0, -⟩ := hf; have h0 : x 18 = _ := h0; show J _ ((58, x 18) :: _) _ _; rw [h0])
      (refine j_call rfl rfl (bnumbers_spec t3 hr3 [ItH t] (hok.ok_at hg3)) ((by repeat (first | exact .refl | apply Pk.cons | constructor))) rfl (fun v M N h hN => ?_); obtain ⟨⟨u, rfl, hua, hub, huc⟩, rfl⟩ := h; (try simp only [List.nil_append, List.cons_append, List.append_assoc] at hN); subst hN)
      refine j_nil ?_
      exact j_endI _ rfl ⟨u, rfl, hua, hub, huc⟩ (by repeat (first | exact .refl | apply Pk.cons | constructor))
    · (obtain ⟨h0, -⟩ := hf; have h0 : x 18 = _ := h0; show J _ ((58, x 18) :: _) _ _; rw [h0])
      (refine j_call rfl rfl (bnumbers_spec t3 hr3 [ItH t] (hok.ok_at hg3)) ((by repeat (first | exact .refl | apply Pk.cons | constructor))) rfl (fun v M N h hN => ?_); obtain ⟨⟨u, rfl, hua, hub, huc⟩, rfl⟩ := h; (try simp only [List.nil_append, List.cons_append, List.append_assoc] at hN); subst hN)
      refine j_nil ?_
      exact j_endI _ rfl ⟨u, rfl, hua, hub, huc⟩ (by repeat (first | exact .refl | apply Pk.cons | constructor))
    · repeat' (first | (show J _ _ _ (runS _ _ _ _ (⟨_, _, _, _, _, none⟩ :: _)); (show J _ _ _ (runS _ _ _ _ (⟨_, .fieldAddr _ _ _, _, _, _, _⟩ :: _)); refine j_fieldAddr rfl rfl ?_)) | refine j_nil ?_)
      exact j_endI _ rfl rfl (by repeat ((exact .refl)))
    · repeat' (first | (show J _ _ _ (runS _ _ _ _ (⟨_, _, _, _, _, none⟩ :: _)); (show J _ _ _ (runS _ _ _ _ (⟨_, .fieldAddr _ _ _, _, _, _, _⟩ :: _)); refine j_fieldAddr rfl rfl ?_)) | refine j_nil ?_)
      exact j_endI _ rfl rfl (by repeat ((exact .refl)))
    · (obtain ⟨h0, -⟩ := hf; have h0 : x 20 = _ := h0; show J _ ((60, x 20) :: _) _ _; rw [h0])
      repeat' (first | (show J _ _ _ (runS _ _ _ _ (⟨_, _, _, _, _, none⟩ :: _)); (show J _ _ _ (runS _ _ _ _ (⟨_, .load _ _, _, _, _, _⟩ :: _)); ((refine j_load rfl rfl (by repeat constructor) rfl rfl ?_)))) | refine j_nil ?_)
      exact j_endI _ rfl rfl (by repeat ((exact .refl)))
    · (obtain ⟨h0, -⟩ := hf; have h0 : x 20 = _ := h0; show J _ ((60, x 20) :: _) _ _; rw [h0])
      repeat' (first | (show J _ _ _ (runS _ _ _ _ (⟨_, _, _, _, _, none⟩ :: _)); (show J _ _ _ (runS _ _ _ _ (⟨_, .load _ _, _, _, _, _⟩ :: _)); ((refine j_load rfl rfl (by repeat constructor) rfl rfl ?_)))) | refine j_nil ?_)
      exact j_endI _ rfl rfl (by repeat ((exact .refl)))
    · (obtain ⟨h0, -⟩ := hf; have h0 : x 21 = _ := h0; show J _ ((61, x 21) :: _) _ _; rw [h0])
      refine j_idx (α := IA) (M := [ItH t]) rfl rfl (by repeat (first | exact .refl | apply Pk.cons | constructor)) hok.ok_vw rfl 4 rfl (by omega) rfl (fun b3 o3 ha3 hc3 => ?_)
      refine j_nil ?_
      exact j_endI _ rfl ⟨b3, _, rfl, fun q u hu => hc3 q u (by rw [show (lsI t)[4] = t4 from by simp [hts]]; exact hu)⟩ (by repeat ((exact .refl)))
    · (obtain ⟨h0, -⟩ := hf; have h0 : x 21 = _ := h0; show J _ ((61, x 21) :: _) _ _; rw [h0])
      refine j_idx (α := IA) (M := [ItH t]) rfl rfl (by repeat (first | exact .refl | apply Pk.cons | constructor)) hok.ok_vw rfl 4 rfl (by omega) rfl (fun b3 o3 ha3 hc3 => ?_)
      refine j_nil ?_
      exact j_endI _ rfl ⟨b3, _, rfl, fun q u hu => hc3 q u (by rw [show (lsI t)[4] = t4 from by simp [hts]]; exact hu)⟩ (by repeat ((exact .refl)))
    · obtain ⟨⟨pb, po, h0, hq⟩, -⟩ := hf
      have h0 : x 22 = _ := h0
      show J _ ((62, x 22) :: _) _ _
      rw [h0]
      repeat' (first | (show J _ _ _ (runS _ _ _ _ (⟨_, _, _, _, _, none⟩ :: _)); (show J _ _ _ (runS _ _ _ _ (⟨_, .fieldAddr _ _ _, _, _, _, _⟩ :: _)); refine j_fieldAddr rfl rfl ?_)) | refine j_nil ?_)
      exact j_endI _ rfl ⟨pb, po, rfl, hq⟩ (by repeat ((exact .refl)))
    · obtain ⟨⟨pb, po, h0, hq⟩, -⟩ := hf
      have h0 : x 22 = _ := h0
      show J _ ((62, x 22) :: _) _ _
      rw [h0]
      repeat' (first | (show J _ _ _ (runS _ _ _ _ (⟨_, _, _, _, _, none⟩ :: _)); (show J _ _ _ (runS _ _ _ _ (⟨_, .fieldAddr _ _ _, _, _, _, _⟩ :: _)); refine j_fieldAddr rfl rfl ?_)) | refine j_nil ?_)
      exact j_endI _ rfl ⟨pb, po, rfl, hq⟩ (by repeat ((exact .refl)))
    · obtain ⟨⟨pb, po, h0, hq⟩, -⟩ := hf
      have h0 : x 23 = _ := h0
      show J _ ((63, x 23) :: _) _ _
      rw [h0]
      refine j_loadv (M := [ItH t]) (v := .int .i64 (numI t4)) rfl rfl (by repeat (first | exact .refl | apply Pk.cons | constructor)) (hq 1 _ (by rw [cells_is]; rfl)) rfl ?_
      refine j_nil ?_
      exact j_endI _ rfl rfl (by repeat ((exact .refl)))
    · obtain ⟨⟨pb, po, h0, hq⟩, -⟩ := hf
      have h0 : x 23 = _ := h0
      show J _ ((63, x 23) :: _) _ _
      rw [h0]
      refine j_loadv (M := [ItH t]) (v := .int .i64 (numI t4)) rfl rfl (by repeat (first | exact .refl | apply Pk.cons | constructor)) (hq 1 _ (by rw [cells_is]; rfl)) rfl ?_
      refine j_nil ?_
      exact j_endI _ rfl rfl (by repeat ((exact .refl)))
    · obtain ⟨h4, h9, h14, ⟨u, h19, hua, hub, huc⟩, h24, -⟩ := hf
      have h4 : x 4 = _ := h4
      have h9 : x 9 = _ := h9
      have h14 : x 14 = _ := h14
      have h24 : x 24 = _ := h24
      show J _ ((44, x 4) :: (49, x 9) :: (54, x 14) :: (59, x 19) :: (64, x 24) :: _) _ _
      rw [h4, h9, h14, h19, h24]
      refine j_build rfl (by repeat constructor) rfl ?_
      refine j_nil ?_
      exact j_endI _ rfl ⟨⟨numI t0, strI t1, strI t2, u, numI t4⟩, rfl, hs1, hs2, hn0, hua, hub, huc, hn4⟩ (by repeat ((exact .refl)))
    · obtain ⟨h4, h9, h14, ⟨u, h19, hua, hub, huc⟩, h24, -⟩ := hf
      have h4 : x 4 = _ := h4
      have h9 : x 9 = _ := h9
      have h14 : x 14 = _ := h14
      have h24 : x 24 = _ := h24
      show J _ ((44, x 4) :: (49, x 9) :: (54, x 14) :: (59, x 19) :: (64, x 24) :: _) _ _
      rw [h4, h9, h14, h19, h24]
      refine j_build rfl (by repeat constructor) rfl ?_
      refine j_nil ?_
      exact j_endI _ rfl ⟨⟨numI t0, strI t1, strI t2, u, numI t4⟩, rfl, hs1, hs2, hn0, hua, hub, huc, hn4⟩ (by repeat ((exact .refl)))
    · repeat' (first | (show J _ _ _ (runS _ _ _ _ (⟨_, _, _, _, _, none⟩ :: _)); (show J _ _ _ (runS _ _ _ _ (⟨_, .alloc _, _, _, _, _⟩ :: _)); refine j_alloc rfl (fun b => ?_))) | refine j_nil ?_)
      exact j_endI _ rfl ⟨b, rfl⟩ (by repeat ((exact .refl)))
    · repeat' (first | (show J _ _ _ (runS _ _ _ _ (⟨_, _, _, _, _, none⟩ :: _)); (show J _ _ _ (runS _ _ _ _ (⟨_, .alloc _, _, _, _, _⟩ :: _)); refine j_alloc rfl (fun b => ?_))) | refine j_nil ?_)
      exact j_endI _ rfl ⟨b, rfl⟩ (by repeat ((exact .refl)))
  · intro x hf
    obtain ⟨-, -, -, -, -, -, -, -, -, -, -, -, -, -, -, -, -, -, -, -, -, -, -, -, -, ⟨c, h25, hcb⟩, ⟨b5, h26⟩, -⟩ := hf
    have h26 : x 26 = _ := h26
    show J _ ((40, x 0) :: (41, x 1) :: (42, x 2) :: (43, x 3) :: (44, x 4) :: (45, x 5) :: (46, x 6) :: (47, x 7) :: (48, x 8) :: (49, x 9) :: (50, x 10) :: (51, x 11) :: (52, x 12) :: (53, x 13) :: (54, x 14) :: (55, x 15) :: (56, x 16) :: (57, x 17) :: (58, x 18) :: (59, x 19) :: (60, x 20) :: (61, x 21) :: (62, x 22) :: (63, x 23) :: (64, x 24) :: (65, x 25) :: (6, x 26) :: _) (blk (adP (x 26)) _ _ :: _) _
    rw [h25, h26]
    show J _ _ (blk b5 44 [.int .i64 0, .string ⟨#[]⟩, .string ⟨#[]⟩, .int .i64 0, .int .i64 0, .int .i64 0, .int .i64 0] :: _) _
    rw [show Enc.enc c = [.int .i64 c.op, .string c.nm, .string c.oo, .int .i64 c.v.a, .int .i64 c.v.b, .int .i64 c.v.c, .int .i64 c.n] from rfl]
    repeat' (first | (show J _ _ _ (runS _ _ _ _ (⟨_, _, _, _, _, none⟩ :: _)); (show J _ _ _ (runS _ _ _ _ (⟨_, .store _ _ _, _, _, _, _⟩ :: _)); ((refine j_sets rfl rfl rfl (by rfl) (by repeat constructor) (by repeat constructor) (by rfl) ?_)))) | refine j_nil ?_ | (show J _ _ _ (Code.wp _ _ _); first | refine j_seq ?_ | refine j_region ?_) | (show J _ _ _ (runT _ _ _ _ _); first | refine j_take rfl ?_ | refine j_done ?_) | refine j_then ?_)
    refine j_loads [.int .i64 c.op, .string c.nm, .string c.oo, .int .i64 c.v.a, .int .i64 c.v.b, .int .i64 c.v.c, .int .i64 c.n] rfl rfl rfl (by repeat constructor) ⟨rfl, rfl, rfl, rfl, rfl, rfl, rfl, trivial⟩ rfl ?_
    (refine j_call rfl rfl (benc_spec c hcb.1 hcb.2.1 hcb.2.2.1 hcb.2.2.2.1 hcb.2.2.2.2.1 hcb.2.2.2.2.2.1 hcb.2.2.2.2.2.2 []) (.refl) rfl (fun v M N h hN => ?_); obtain ⟨⟨s2, e, rfl, he⟩, rfl⟩ := h; (try simp only [List.nil_append, List.cons_append, List.append_assoc] at hN); subst hN)
    repeat' (first | (show J _ _ _ (runS _ _ _ _ (⟨_, _, _, _, _, none⟩ :: _)); first | (show J _ _ _ (runS _ _ _ _ (⟨_, .move _, _, _, _, _⟩ :: _)); refine j_move rfl rfl ?_) | (show J _ _ _ (runS _ _ _ _ (⟨_, .binOp _ _ _ _ _, _, _, _, _⟩ :: _)); (first | refine j_bin rfl rfl rfl rfl ?_ | refine j_nestr rfl rfl rfl ?_)) | (show J _ _ _ (runS _ _ _ _ (⟨_, .assign _, _, _, _, _⟩ :: _)); refine j_assign rfl rfl ?_) | (show J _ _ _ (runS _ _ _ _ (⟨_, .store _ _ _, _, _, _, _⟩ :: _)); ((refine j_sets rfl rfl rfl (by rfl) (by repeat constructor) (by repeat constructor) (by rfl) ?_))) | (show J _ _ _ (runS _ _ _ _ (⟨_, .pick _ _ _, _, _, _, _⟩ :: _)); (first | refine j_pick_t rfl rfl rfl ?_ | refine j_pick_f rfl rfl rfl ?_)) | (show J _ _ _ (runS _ _ _ _ (⟨_, .build _ _, _, _, _, _⟩ :: _)); refine j_build rfl (by repeat constructor) rfl ?_) | (show J _ _ _ (runS _ _ _ _ (⟨_, .extract _ _, _, _, _, _⟩ :: _)); refine j_extract rfl rfl rfl ?_)) | refine j_nil ?_ | (show J _ _ _ (runS _ _ _ _ (⟨_, _, _, _, _, some _⟩ :: _)); first | refine j_gno_u rfl rfl rfl rfl ?_ | refine j_gyes rfl rfl rfl ?_ | refine j_gsplit_dec rfl rfl (fun h => ?_) (fun h => ?_)) | (show J _ _ _ (Code.wp _ _ _); first | refine j_seq ?_ | refine j_region ?_ | (show J _ _ _ (Code.wp _ (.cond _ _ _) _); first | refine j_true rfl ?_ | refine j_dec rfl (fun h => ?_) (fun h => ?_)) | refine j_ret ?_ | refine j_skip ?_) | refine j_then ?_ | refine j_then_ret ?_)
    · exact j_retc2 [.int .i64 0, .string ⟨#[]⟩, .string ⟨#[]⟩, .int .i64 0, .int .i64 0, .int .i64 0, .int .i64 0] rfl rfl rfl (by repeat constructor) rfl ⟨rfl, rfl, rfl, rfl, rfl, rfl, rfl, trivial⟩ rfl (M := Lp) (by repeat (first | exact .refl | refine .drop ?_)) ⟨⟨zC, 4, rfl, zCB, fun h => absurd h (by decide)⟩, rfl⟩
    · exact j_retc2 [.int .i64 0, .string ⟨#[]⟩, .string ⟨#[]⟩, .int .i64 0, .int .i64 0, .int .i64 0, .int .i64 0] rfl rfl rfl (by repeat constructor) rfl ⟨rfl, rfl, rfl, rfl, rfl, rfl, rfl, trivial⟩ rfl (M := Lp) (by repeat (first | exact .refl | refine .drop ?_)) ⟨⟨zC, 4, rfl, zCB, fun h => absurd h (by decide)⟩, rfl⟩
    · refine j_loads [.int .i64 c.op, .string c.nm, .string c.oo, .int .i64 c.v.a, .int .i64 c.v.b, .int .i64 c.v.c, .int .i64 c.n] rfl rfl rfl (by repeat constructor) ⟨rfl, rfl, rfl, rfl, rfl, rfl, rfl, trivial⟩ rfl ?_
      repeat' (first | (show J _ _ _ (runS _ _ _ _ (⟨_, _, _, _, _, none⟩ :: _)); first | (show J _ _ _ (runS _ _ _ _ (⟨_, .assign _, _, _, _, _⟩ :: _)); refine j_assign rfl rfl ?_) | (show J _ _ _ (runS _ _ _ _ (⟨_, .store _ _ _, _, _, _, _⟩ :: _)); ((refine j_sets rfl rfl rfl (by rfl) (by repeat constructor) (by repeat constructor) (by rfl) ?_)))) | refine j_nil ?_ | (show J _ _ _ (Code.wp _ _ _); (refine j_ret ?_)) | refine j_then ?_)
      exact j_retc2 [.int .i64 c.op, .string c.nm, .string c.oo, .int .i64 c.v.a, .int .i64 c.v.b, .int .i64 c.v.c, .int .i64 c.n] rfl rfl rfl (by repeat constructor) rfl ⟨rfl, rfl, rfl, rfl, rfl, rfl, rfl, trivial⟩ rfl (M := Lp) (by repeat (first | exact .refl | refine .drop ?_)) ⟨⟨c, 0, rfl, hcb, fun _ => ⟨he (by omega), hse⟩⟩, rfl⟩
end Go.Proofs.Ytnmfpgfgjjmfhaa
end

section
set_option linter.unusedVariables false
set_option linter.unusedSimpArgs false
set_option maxRecDepth 100000
namespace Go.Proofs.Ytnmfpgfgjjmfhaa
open Go
attribute [local irreducible] Exit.then Exit.inBlock Code.wp runS bodyPost postF J runT cutQ cutR Tr Sat blk Sl Old Star Ex Pu
attribute [local irreducible] ItH ItHL
theorem cwithin_spec (n lo hi : Int) (Lp : List HP) : Tr Try.prog 41 [.int .i64 n, .int .i64 lo, .int .i64 hi] Lp (fun v M => v = .bool (decide (lo ≤ n ∧ n ≤ hi)) ∧ M = Lp) := by
  refine tr_enter Try.func41 rfl Try.ntmps41 rfl (fun F => ?_)
  repeat' (first | (show J _ _ _ (runS _ _ _ _ (⟨_, _, _, _, _, none⟩ :: _)); first | (show J _ _ _ (runS _ _ _ _ (⟨_, .move _, _, _, _, _⟩ :: _)); refine j_move rfl rfl ?_) | (show J _ _ _ (runS _ _ _ _ (⟨_, .binOp _ _ _ _ _, _, _, _, _⟩ :: _)); ((refine j_bin rfl rfl rfl rfl ?_))) | (show J _ _ _ (runS _ _ _ _ (⟨_, .assign _, _, _, _, _⟩ :: _)); refine j_assign rfl rfl ?_) | (show J _ _ _ (runS _ _ _ _ (⟨_, .pick _ _ _, _, _, _, _⟩ :: _)); (first | refine j_pick_t rfl rfl rfl ?_ | refine j_pick_f rfl rfl rfl ?_))) | refine j_nil ?_ | (show J _ _ _ (runS _ _ _ _ (⟨_, _, _, _, _, some _⟩ :: _)); first | refine j_gno_u rfl rfl rfl rfl ?_ | refine j_gyes rfl rfl rfl ?_ | refine j_gsplit_dec rfl rfl (fun h => ?_) (fun h => ?_)) | (show J _ _ _ (Code.wp _ _ _); first | refine j_seq ?_ | refine j_region ?_ | refine j_ret ?_) | refine j_then ?_)
  · exact j_ret1 (M := Lp) rfl rfl .refl ⟨by have : lo ≤ n := h; simp [this], rfl⟩
  · exact j_ret1 (M := Lp) rfl rfl .refl ⟨by have : ¬ lo ≤ n := h; simp [this], rfl⟩
theorem cmay4_spec (i s n : Int) (c : Cm) (hn : c.nm.size ≤ 1000000) (ho : c.oo.size ≤ 1000000) (Lp : List HP) : Tr Try.prog 73 [.agg (Enc.enc (Or.mk 4 i s n c)).toArray] Lp (fun v M => (∃ b, v = .bool b ∧ ((4 : Int) = 4 → (b = true ↔ okM ⟨4, i, s, n, c⟩))) ∧ M = Lp) := by
  rw [show Enc.enc (Or.mk 4 i s n c) = [.int .i64 4, .int .i64 i, .int .i64 s, .int .i64 n, .int .i64 c.op, .string c.nm, .string c.oo, .int .i64 c.v.a, .int .i64 c.v.b, .int .i64 c.v.c, .int .i64 c.n] from rfl]
  refine tr_enter Try.func73 rfl Try.ntmps73 rfl (fun F => ?_)
  repeat' (first | (show J _ _ _ (runS _ _ _ _ (⟨_, _, _, _, _, none⟩ :: _)); first | (show J _ _ _ (runS _ _ _ _ (⟨_, .move _, _, _, _, _⟩ :: _)); refine j_move rfl rfl ?_) | (show J _ _ _ (runS _ _ _ _ (⟨_, .load _ _, _, _, _, _⟩ :: _)); ((refine j_load rfl rfl (by repeat constructor) rfl rfl ?_))) | (show J _ _ _ (runS _ _ _ _ (⟨_, .fieldAddr _ _ _, _, _, _, _⟩ :: _)); refine j_fieldAddr rfl rfl ?_) | (show J _ _ _ (runS _ _ _ _ (⟨_, .binOp _ _ _ _ _, _, _, _, _⟩ :: _)); ((refine j_bin rfl rfl rfl rfl ?_))) | (show J _ _ _ (runS _ _ _ _ (⟨_, .assign _, _, _, _, _⟩ :: _)); refine j_assign rfl rfl ?_) | (show J _ _ _ (runS _ _ _ _ (⟨_, .pick _ _ _, _, _, _, _⟩ :: _)); (first | refine j_pick_t rfl rfl rfl ?_ | refine j_pick_f rfl rfl rfl ?_)) | (show J _ _ _ (runS _ _ _ _ (⟨_, .build _ _, _, _, _, _⟩ :: _)); refine j_build rfl (by repeat constructor) rfl ?_) | (show J _ _ _ (runS _ _ _ _ (⟨_, .box _ _, _, _, _, _⟩ :: _)); refine j_box rfl rfl (fun b => ?_))) | refine j_nil ?_ | (show J _ _ _ (runS _ _ _ _ (⟨_, _, _, _, _, some _⟩ :: _)); first | refine j_gno_u rfl rfl rfl rfl ?_ | refine j_gyes rfl rfl rfl ?_ | refine j_gsplit_dec rfl rfl (fun h => ?_) (fun h => ?_) | refine j_gsplit rfl rfl (fun h => ?_) (fun h => ?_)) | (show J _ _ _ (Code.wp _ _ _); first | refine j_seq ?_ | refine j_region ?_ | refine j_block ?_ | (show J _ _ _ (Code.wp _ (.cond _ _ _) _); first | refine j_true rfl ?_ | refine j_false rfl ?_) | refine j_ret ?_) | refine j_then ?_ | refine j_then_ret ?_ | refine j_inb_ret ?_ | (show J _ _ _ (runS _ _ _ _ (⟨_, .load 44 _, _, _, _, _⟩ :: _)); refine j_loads [.int .i64 c.op, .string c.nm, .string c.oo, .int .i64 c.v.a, .int .i64 c.v.b, .int .i64 c.v.c, .int .i64 c.n] rfl rfl rfl (by repeat constructor) ⟨rfl, rfl, rfl, rfl, rfl, rfl, rfl, trivial⟩ rfl ?_) | (show J _ _ _ (runS _ _ _ _ (⟨_, .binOp .eql 44 _ _ _, _, _, _, _⟩ :: _)); refine j_eqS (α := Cm) (p := c) (q := zC) rfl rfl rfl (fun b0 hb0 => ?_)) | (refine j_call rfl rfl (cwithin_spec _ _ _ []) (.refl) rfl (fun v M N h hN => ?_); obtain ⟨rfl, rfl⟩ := h; (try simp only [List.nil_append, List.cons_append, List.append_assoc] at hN); subst hN))
  · refine j_ret1 (M := Lp) rfl rfl (by repeat (first | exact .refl | refine .drop ?_)) ⟨⟨_, rfl, fun _ => ⟨fun h5 => ?_, fun hm => decide_eq_true hm.2.2.2⟩⟩, rfl⟩
    exact ⟨by assumption, by assumption, hb0.1 h, of_decide_eq_true h5⟩
  · exact j_ret1 (M := Lp) rfl rfl (by repeat (first | exact .refl | refine .drop ?_)) ⟨⟨false, rfl, fun _ => ⟨fun h => (by cases h), fun hm => (by rw [hb0.2 hm.2.2.1] at h; cases h)⟩⟩, rfl⟩
  · exact j_ret1 (M := Lp) rfl rfl (by repeat (first | exact .refl | refine .drop ?_)) ⟨⟨false, rfl, fun _ => ⟨fun h => (by cases h), fun hm => absurd hm.2.1 h⟩⟩, rfl⟩
  · exact j_ret1 (M := Lp) rfl rfl (by repeat (first | exact .refl | refine .drop ?_)) ⟨⟨false, rfl, fun _ => ⟨fun h => (by cases h), fun hm => absurd hm.1 h⟩⟩, rfl⟩
theorem cmay1_spec (i s n : Int) (c : Cm) (hn : c.nm.size ≤ 1000000) (ho : c.oo.size ≤ 1000000) (Lp : List HP) : Tr Try.prog 73 [.agg (Enc.enc (Or.mk 1 i s n c)).toArray] Lp (fun v M => (∃ b, v = .bool b ∧ ((1 : Int) = 4 → (b = true ↔ okM ⟨1, i, s, n, c⟩))) ∧ M = Lp) := by
  rw [show Enc.enc (Or.mk 1 i s n c) = [.int .i64 1, .int .i64 i, .int .i64 s, .int .i64 n, .int .i64 c.op, .string c.nm, .string c.oo, .int .i64 c.v.a, .int .i64 c.v.b, .int .i64 c.v.c, .int .i64 c.n] from rfl]
  refine tr_enter Try.func73 rfl Try.ntmps73 rfl (fun F => ?_)
  repeat' (first | (show J _ _ _ (runS _ _ _ _ (⟨_, _, _, _, _, none⟩ :: _)); first | (show J _ _ _ (runS _ _ _ _ (⟨_, .move _, _, _, _, _⟩ :: _)); refine j_move rfl rfl ?_) | (show J _ _ _ (runS _ _ _ _ (⟨_, .load _ _, _, _, _, _⟩ :: _)); ((refine j_load rfl rfl (by repeat constructor) rfl rfl ?_))) | (show J _ _ _ (runS _ _ _ _ (⟨_, .fieldAddr _ _ _, _, _, _, _⟩ :: _)); refine j_fieldAddr rfl rfl ?_) | (show J _ _ _ (runS _ _ _ _ (⟨_, .binOp _ _ _ _ _, _, _, _, _⟩ :: _)); ((refine j_bin rfl rfl rfl rfl ?_))) | (show J _ _ _ (runS _ _ _ _ (⟨_, .assign _, _, _, _, _⟩ :: _)); refine j_assign rfl rfl ?_) | (show J _ _ _ (runS _ _ _ _ (⟨_, .pick _ _ _, _, _, _, _⟩ :: _)); (first | refine j_pick_t rfl rfl rfl ?_ | refine j_pick_f rfl rfl rfl ?_)) | (show J _ _ _ (runS _ _ _ _ (⟨_, .build _ _, _, _, _, _⟩ :: _)); refine j_build rfl (by repeat constructor) rfl ?_) | (show J _ _ _ (runS _ _ _ _ (⟨_, .box _ _, _, _, _, _⟩ :: _)); refine j_box rfl rfl (fun b => ?_))) | refine j_nil ?_ | (show J _ _ _ (runS _ _ _ _ (⟨_, _, _, _, _, some _⟩ :: _)); first | refine j_gno_u rfl rfl rfl rfl ?_ | refine j_gyes rfl rfl rfl ?_ | refine j_gsplit_dec rfl rfl (fun h => ?_) (fun h => ?_) | refine j_gsplit rfl rfl (fun h => ?_) (fun h => ?_)) | (show J _ _ _ (Code.wp _ _ _); first | refine j_seq ?_ | refine j_region ?_ | refine j_block ?_ | (show J _ _ _ (Code.wp _ (.cond _ _ _) _); first | refine j_true rfl ?_ | refine j_false rfl ?_) | refine j_ret ?_ | refine j_skip ?_) | refine j_then ?_ | refine j_then_ret ?_ | refine j_inb_ret ?_ | (show J _ _ _ (runS _ _ _ _ (⟨_, .load 44 _, _, _, _, _⟩ :: _)); refine j_loads [.int .i64 c.op, .string c.nm, .string c.oo, .int .i64 c.v.a, .int .i64 c.v.b, .int .i64 c.v.c, .int .i64 c.n] rfl rfl rfl (by repeat constructor) ⟨rfl, rfl, rfl, rfl, rfl, rfl, rfl, trivial⟩ rfl ?_) | (show J _ _ _ (runS _ _ _ _ (⟨_, .binOp .eql 44 _ _ _, _, _, _, _⟩ :: _)); refine j_eqS (α := Cm) (p := c) (q := zC) rfl rfl rfl (fun b0 hb0 => ?_)) | (refine j_call rfl rfl (cwithin_spec _ _ _ []) (.refl) rfl (fun v M N h hN => ?_); obtain ⟨rfl, rfl⟩ := h; (try simp only [List.nil_append, List.cons_append, List.append_assoc] at hN); subst hN))
  all_goals exact j_ret1 (M := Lp) rfl rfl (by repeat (first | exact .refl | refine .drop ?_)) ⟨⟨_, rfl, fun h => absurd h (by decide)⟩, rfl⟩
theorem cmay2_spec (i s n : Int) (c : Cm) (hn : c.nm.size ≤ 1000000) (ho : c.oo.size ≤ 1000000) (Lp : List HP) : Tr Try.prog 73 [.agg (Enc.enc (Or.mk 2 i s n c)).toArray] Lp (fun v M => (∃ b, v = .bool b ∧ ((2 : Int) = 4 → (b = true ↔ okM ⟨2, i, s, n, c⟩))) ∧ M = Lp) := by
  rw [show Enc.enc (Or.mk 2 i s n c) = [.int .i64 2, .int .i64 i, .int .i64 s, .int .i64 n, .int .i64 c.op, .string c.nm, .string c.oo, .int .i64 c.v.a, .int .i64 c.v.b, .int .i64 c.v.c, .int .i64 c.n] from rfl]
  refine tr_enter Try.func73 rfl Try.ntmps73 rfl (fun F => ?_)
  repeat' (first | (show J _ _ _ (runS _ _ _ _ (⟨_, _, _, _, _, none⟩ :: _)); first | (show J _ _ _ (runS _ _ _ _ (⟨_, .move _, _, _, _, _⟩ :: _)); refine j_move rfl rfl ?_) | (show J _ _ _ (runS _ _ _ _ (⟨_, .load _ _, _, _, _, _⟩ :: _)); ((refine j_load rfl rfl (by repeat constructor) rfl rfl ?_))) | (show J _ _ _ (runS _ _ _ _ (⟨_, .fieldAddr _ _ _, _, _, _, _⟩ :: _)); refine j_fieldAddr rfl rfl ?_) | (show J _ _ _ (runS _ _ _ _ (⟨_, .binOp _ _ _ _ _, _, _, _, _⟩ :: _)); ((refine j_bin rfl rfl rfl rfl ?_))) | (show J _ _ _ (runS _ _ _ _ (⟨_, .assign _, _, _, _, _⟩ :: _)); refine j_assign rfl rfl ?_) | (show J _ _ _ (runS _ _ _ _ (⟨_, .pick _ _ _, _, _, _, _⟩ :: _)); (first | refine j_pick_t rfl rfl rfl ?_ | refine j_pick_f rfl rfl rfl ?_)) | (show J _ _ _ (runS _ _ _ _ (⟨_, .build _ _, _, _, _, _⟩ :: _)); refine j_build rfl (by repeat constructor) rfl ?_) | (show J _ _ _ (runS _ _ _ _ (⟨_, .box _ _, _, _, _, _⟩ :: _)); refine j_box rfl rfl (fun b => ?_))) | refine j_nil ?_ | (show J _ _ _ (runS _ _ _ _ (⟨_, _, _, _, _, some _⟩ :: _)); first | refine j_gno_u rfl rfl rfl rfl ?_ | refine j_gyes rfl rfl rfl ?_ | refine j_gsplit_dec rfl rfl (fun h => ?_) (fun h => ?_)) | (show J _ _ _ (Code.wp _ _ _); first | refine j_seq ?_ | refine j_region ?_ | refine j_block ?_ | (show J _ _ _ (Code.wp _ (.cond _ _ _) _); first | refine j_true rfl ?_ | refine j_false rfl ?_) | refine j_ret ?_) | refine j_then ?_ | refine j_then_ret ?_ | refine j_inb_ret ?_ | (show J _ _ _ (runS _ _ _ _ (⟨_, .load 44 _, _, _, _, _⟩ :: _)); refine j_loads [.int .i64 c.op, .string c.nm, .string c.oo, .int .i64 c.v.a, .int .i64 c.v.b, .int .i64 c.v.c, .int .i64 c.n] rfl rfl rfl (by repeat constructor) ⟨rfl, rfl, rfl, rfl, rfl, rfl, rfl, trivial⟩ rfl ?_) | (show J _ _ _ (runS _ _ _ _ (⟨_, .binOp .eql 44 _ _ _, _, _, _, _⟩ :: _)); refine j_eqS (α := Cm) (p := c) (q := zC) rfl rfl rfl (fun b0 hb0 => ?_)) | (refine j_call rfl rfl (cwithin_spec _ _ _ []) (.refl) rfl (fun v M N h hN => ?_); obtain ⟨rfl, rfl⟩ := h; (try simp only [List.nil_append, List.cons_append, List.append_assoc] at hN); subst hN) | (refine j_call rfl rfl (bmay_spec c hn ho []) (.refl) rfl (fun v M N h hN => ?_); obtain ⟨⟨b1, rfl, -⟩, rfl⟩ := h; (try simp only [List.nil_append, List.cons_append, List.append_assoc] at hN); subst hN))
  all_goals exact j_ret1 (M := Lp) rfl rfl (by repeat (first | exact .refl | refine .drop ?_)) ⟨⟨_, rfl, fun h => absurd h (by decide)⟩, rfl⟩
theorem cmay3_spec (i s n : Int) (c : Cm) (hn : c.nm.size ≤ 1000000) (ho : c.oo.size ≤ 1000000) (Lp : List HP) : Tr Try.prog 73 [.agg (Enc.enc (Or.mk 3 i s n c)).toArray] Lp (fun v M => (∃ b, v = .bool b ∧ ((3 : Int) = 4 → (b = true ↔ okM ⟨3, i, s, n, c⟩))) ∧ M = Lp) := by
  rw [show Enc.enc (Or.mk 3 i s n c) = [.int .i64 3, .int .i64 i, .int .i64 s, .int .i64 n, .int .i64 c.op, .string c.nm, .string c.oo, .int .i64 c.v.a, .int .i64 c.v.b, .int .i64 c.v.c, .int .i64 c.n] from rfl]
  refine tr_enter Try.func73 rfl Try.ntmps73 rfl (fun F => ?_)
  repeat' (first | (show J _ _ _ (runS _ _ _ _ (⟨_, _, _, _, _, none⟩ :: _)); first | (show J _ _ _ (runS _ _ _ _ (⟨_, .move _, _, _, _, _⟩ :: _)); refine j_move rfl rfl ?_) | (show J _ _ _ (runS _ _ _ _ (⟨_, .load _ _, _, _, _, _⟩ :: _)); ((refine j_load rfl rfl (by repeat constructor) rfl rfl ?_))) | (show J _ _ _ (runS _ _ _ _ (⟨_, .fieldAddr _ _ _, _, _, _, _⟩ :: _)); refine j_fieldAddr rfl rfl ?_) | (show J _ _ _ (runS _ _ _ _ (⟨_, .binOp _ _ _ _ _, _, _, _, _⟩ :: _)); ((refine j_bin rfl rfl rfl rfl ?_))) | (show J _ _ _ (runS _ _ _ _ (⟨_, .assign _, _, _, _, _⟩ :: _)); refine j_assign rfl rfl ?_) | (show J _ _ _ (runS _ _ _ _ (⟨_, .pick _ _ _, _, _, _, _⟩ :: _)); (first | refine j_pick_t rfl rfl rfl ?_ | refine j_pick_f rfl rfl rfl ?_)) | (show J _ _ _ (runS _ _ _ _ (⟨_, .build _ _, _, _, _, _⟩ :: _)); refine j_build rfl (by repeat constructor) rfl ?_) | (show J _ _ _ (runS _ _ _ _ (⟨_, .box _ _, _, _, _, _⟩ :: _)); refine j_box rfl rfl (fun b => ?_))) | refine j_nil ?_ | (show J _ _ _ (runS _ _ _ _ (⟨_, _, _, _, _, some _⟩ :: _)); first | refine j_gno_u rfl rfl rfl rfl ?_ | refine j_gyes rfl rfl rfl ?_ | refine j_gsplit_dec rfl rfl (fun h => ?_) (fun h => ?_) | refine j_gsplit rfl rfl (fun h => ?_) (fun h => ?_)) | (show J _ _ _ (Code.wp _ _ _); first | refine j_seq ?_ | refine j_region ?_ | refine j_block ?_ | (show J _ _ _ (Code.wp _ (.cond _ _ _) _); first | refine j_true rfl ?_ | refine j_false rfl ?_) | refine j_ret ?_) | refine j_then ?_ | refine j_then_ret ?_ | refine j_inb_ret ?_ | (show J _ _ _ (runS _ _ _ _ (⟨_, .load 44 _, _, _, _, _⟩ :: _)); refine j_loads [.int .i64 c.op, .string c.nm, .string c.oo, .int .i64 c.v.a, .int .i64 c.v.b, .int .i64 c.v.c, .int .i64 c.n] rfl rfl rfl (by repeat constructor) ⟨rfl, rfl, rfl, rfl, rfl, rfl, rfl, trivial⟩ rfl ?_) | (show J _ _ _ (runS _ _ _ _ (⟨_, .binOp .eql 44 _ _ _, _, _, _, _⟩ :: _)); refine j_eqS (α := Cm) (p := c) (q := zC) rfl rfl rfl (fun b0 hb0 => ?_)) | (refine j_call rfl rfl (cwithin_spec _ _ _ []) (.refl) rfl (fun v M N h hN => ?_); obtain ⟨rfl, rfl⟩ := h; (try simp only [List.nil_append, List.cons_append, List.append_assoc] at hN); subst hN))
  all_goals exact j_ret1 (M := Lp) rfl rfl (by repeat (first | exact .refl | refine .drop ?_)) ⟨⟨_, rfl, fun h => absurd h (by decide)⟩, rfl⟩
theorem cmay5_spec (i s n : Int) (c : Cm) (hn : c.nm.size ≤ 1000000) (ho : c.oo.size ≤ 1000000) (Lp : List HP) : Tr Try.prog 73 [.agg (Enc.enc (Or.mk 5 i s n c)).toArray] Lp (fun v M => (∃ b, v = .bool b ∧ ((5 : Int) = 4 → (b = true ↔ okM ⟨5, i, s, n, c⟩))) ∧ M = Lp) := by
  rw [show Enc.enc (Or.mk 5 i s n c) = [.int .i64 5, .int .i64 i, .int .i64 s, .int .i64 n, .int .i64 c.op, .string c.nm, .string c.oo, .int .i64 c.v.a, .int .i64 c.v.b, .int .i64 c.v.c, .int .i64 c.n] from rfl]
  refine tr_enter Try.func73 rfl Try.ntmps73 rfl (fun F => ?_)
  repeat' (first | (show J _ _ _ (runS _ _ _ _ (⟨_, _, _, _, _, none⟩ :: _)); first | (show J _ _ _ (runS _ _ _ _ (⟨_, .move _, _, _, _, _⟩ :: _)); refine j_move rfl rfl ?_) | (show J _ _ _ (runS _ _ _ _ (⟨_, .load _ _, _, _, _, _⟩ :: _)); ((refine j_load rfl rfl (by repeat constructor) rfl rfl ?_))) | (show J _ _ _ (runS _ _ _ _ (⟨_, .fieldAddr _ _ _, _, _, _, _⟩ :: _)); refine j_fieldAddr rfl rfl ?_) | (show J _ _ _ (runS _ _ _ _ (⟨_, .binOp _ _ _ _ _, _, _, _, _⟩ :: _)); ((refine j_bin rfl rfl rfl rfl ?_))) | (show J _ _ _ (runS _ _ _ _ (⟨_, .assign _, _, _, _, _⟩ :: _)); refine j_assign rfl rfl ?_) | (show J _ _ _ (runS _ _ _ _ (⟨_, .pick _ _ _, _, _, _, _⟩ :: _)); (first | refine j_pick_t rfl rfl rfl ?_ | refine j_pick_f rfl rfl rfl ?_)) | (show J _ _ _ (runS _ _ _ _ (⟨_, .build _ _, _, _, _, _⟩ :: _)); refine j_build rfl (by repeat constructor) rfl ?_) | (show J _ _ _ (runS _ _ _ _ (⟨_, .box _ _, _, _, _, _⟩ :: _)); refine j_box rfl rfl (fun b => ?_))) | refine j_nil ?_ | (show J _ _ _ (runS _ _ _ _ (⟨_, _, _, _, _, some _⟩ :: _)); first | refine j_gno_u rfl rfl rfl rfl ?_ | refine j_gyes rfl rfl rfl ?_ | refine j_gsplit_dec rfl rfl (fun h => ?_) (fun h => ?_)) | (show J _ _ _ (Code.wp _ _ _); first | refine j_seq ?_ | refine j_region ?_ | refine j_block ?_ | (show J _ _ _ (Code.wp _ (.cond _ _ _) _); first | refine j_true rfl ?_ | refine j_false rfl ?_) | refine j_ret ?_) | refine j_then ?_ | refine j_then_ret ?_ | refine j_inb_ret ?_ | (show J _ _ _ (runS _ _ _ _ (⟨_, .load 44 _, _, _, _, _⟩ :: _)); refine j_loads [.int .i64 c.op, .string c.nm, .string c.oo, .int .i64 c.v.a, .int .i64 c.v.b, .int .i64 c.v.c, .int .i64 c.n] rfl rfl rfl (by repeat constructor) ⟨rfl, rfl, rfl, rfl, rfl, rfl, rfl, trivial⟩ rfl ?_) | (show J _ _ _ (runS _ _ _ _ (⟨_, .binOp .eql 44 _ _ _, _, _, _, _⟩ :: _)); refine j_eqS (α := Cm) (p := c) (q := zC) rfl rfl rfl (fun b0 hb0 => ?_)) | (refine j_call rfl rfl (bmay_spec c hn ho []) (.refl) rfl (fun v M N h hN => ?_); obtain ⟨⟨b1, rfl, -⟩, rfl⟩ := h; (try simp only [List.nil_append, List.cons_append, List.append_assoc] at hN); subst hN))
  all_goals exact j_ret1 (M := Lp) rfl rfl (by repeat (first | exact .refl | refine .drop ?_)) ⟨⟨_, rfl, fun h => absurd h (by decide)⟩, rfl⟩
theorem omay_spec (o : Or) (hk : 1 ≤ o.k ∧ o.k ≤ 5) (hn : o.c.nm.size ≤ 1000000) (ho : o.c.oo.size ≤ 1000000) (Lp : List HP) : Tr Try.prog 73 [.agg (Enc.enc o).toArray] Lp (fun v M => (∃ b, v = .bool b ∧ (o.k = 4 → (b = true ↔ okM o))) ∧ M = Lp) := by
  obtain ⟨k, i, s, n, c⟩ := o
  dsimp only at hk hn ho ⊢
  obtain rfl | rfl | rfl | rfl | rfl : k = 1 ∨ k = 2 ∨ k = 3 ∨ k = 4 ∨ k = 5 := by omega
  · exact cmay1_spec i s n c hn ho Lp
  · exact cmay2_spec i s n c hn ho Lp
  · exact cmay3_spec i s n c hn ho Lp
  · exact cmay4_spec i s n c hn ho Lp
  · exact cmay5_spec i s n c hn ho Lp
end Go.Proofs.Ytnmfpgfgjjmfhaa
end

section
set_option linter.unusedVariables false
set_option linter.unusedSimpArgs false
set_option maxRecDepth 100000
namespace Go.Proofs.Ytnmfpgfgjjmfhaa
open Go
attribute [local irreducible] Exit.then Exit.inBlock Code.wp runS bodyPost postF J runT cutQ cutR Tr Sat blk Sl Old Star Ex Pu
attribute [local irreducible] ItH ItHL
def itS (k i s n : Int) (x : ByteArray) (b : Nat) : IA := .lst (some ⟨b, 0, none⟩) 5 [IA.num k none 0, .num i none 0, .num s none 0, .num n none 0, .txt x none 0]
theorem itS_cnt (k i s n : Int) (x : ByteArray) (b : Nat) : cntI (itS k i s n x b) ≤ 1000 := by simp [itS, cntI, cntIL]
theorem itS_dp (k i s n : Int) (x : ByteArray) (b : Nat) : dpI (itS k i s n x b) ≤ 11 := by simp [itS, dpI, dpIL]
theorem itS_ran (k i s n : Int) (x : ByteArray) (b : Nat) (h1 : in64 k) (h2 : in64 i) (h3 : in64 s) (h4 : in64 n) : ranI (itS k i s n x b) := by
  simp only [itS, ranI, ranIL, and_true, true_and]
  exact ⟨h1, h2, h3, h4⟩
theorem itS_sees (k i s n : Int) (x : ByteArray) (b : Nat) : Sees [Sl 64 (some ⟨b, 0, none⟩) 5 [IA.num k none 0, .num i none 0, .num s none 0, .num n none 0, .txt x none 0]] (fun w => OkI w (itS k i s n x b)) := fun w hw => by
  simp only [itS, OkI, OkIL, true_and, and_true]
  exact sees_sl w hw
theorem oenc_spec (k i s n : Int) (c : Cm) (hk : 1 ≤ k ∧ k ≤ 5) (hc : CmB c) (h2 : in64 i) (h3 : in64 s) (h4 : in64 n) (Lp : List HP) : Tr Try.prog 43 [.agg (Enc.enc (Or.mk k i s n c)).toArray] Lp (fun v M => (∃ (d : ByteArray) (e : Int), v = .tuple #[.string d, .int .i64 e] ∧ (k = 4 → (e = 0 ↔ okM ⟨k, i, s, n, c⟩) ∧ (e = 0 → d.data.toList = dB n))) ∧ M = Lp) := by
  have hmay := omay_spec ⟨k, i, s, n, c⟩ hk (Nat.le_trans hc.1 (by decide)) (Nat.le_trans hc.2.1 (by decide))
  rw [show Enc.enc (Or.mk k i s n c) = [.int .i64 k, .int .i64 i, .int .i64 s, .int .i64 n, .int .i64 c.op, .string c.nm, .string c.oo, .int .i64 c.v.a, .int .i64 c.v.b, .int .i64 c.v.c, .int .i64 c.n] from rfl] at hmay ⊢
  refine tr_enter Try.func43 rfl Try.ntmps43 rfl (fun F => ?_)
  repeat' (first | (show J _ _ _ (runS _ _ _ _ (⟨_, _, _, _, _, none⟩ :: _)); first | (show J _ _ _ (runS _ _ _ _ (⟨_, .assign _, _, _, _, _⟩ :: _)); refine j_assign rfl rfl ?_) | (show J _ _ _ (runS _ _ _ _ (⟨_, .box _ _, _, _, _, _⟩ :: _)); refine j_box rfl rfl (fun b => ?_))) | refine j_nil ?_ | (show J _ _ _ (Code.wp _ _ _); first | refine j_seq ?_ | refine j_region ?_) | refine j_then ?_)
  refine j_loads [.int .i64 k, .int .i64 i, .int .i64 s, .int .i64 n, .int .i64 c.op, .string c.nm, .string c.oo, .int .i64 c.v.a, .int .i64 c.v.b, .int .i64 c.v.c, .int .i64 c.n] rfl rfl rfl (by repeat constructor) ⟨rfl, rfl, rfl, rfl, rfl, rfl, rfl, rfl, rfl, rfl, rfl, trivial⟩ rfl ?_
  (refine j_call rfl rfl (hmay []) (.refl) rfl (fun v M N h hN => ?_); obtain ⟨⟨q, rfl, hq⟩, rfl⟩ := h; (try simp only [List.nil_append, List.cons_append, List.append_assoc] at hN); subst hN)
  cases q with
  | false =>
    repeat' (first | (show J _ _ _ (runS _ _ _ _ (⟨_, _, _, _, _, none⟩ :: _)); first | (show J _ _ _ (runS _ _ _ _ (⟨_, .assign _, _, _, _, _⟩ :: _)); refine j_assign rfl rfl ?_) | (show J _ _ _ (runS _ _ _ _ (⟨_, .unOp _ _ _, _, _, _, _⟩ :: _)); ((refine j_not_b rfl rfl ?_)))) | refine j_nil ?_ | (show J _ _ _ (Code.wp _ _ _); first | refine j_seq ?_ | refine j_region ?_ | (show J _ _ _ (Code.wp _ (.cond _ _ _) _); (refine j_true rfl ?_)) | refine j_ret ?_) | refine j_then ?_ | refine j_then_ret ?_)
    exact j_ret2 (M := Lp) rfl rfl rfl (by repeat (first | exact .refl | refine .drop ?_)) ⟨⟨_, 4, rfl, fun h => ⟨⟨fun h => absurd h (by decide), fun ho => absurd ((hq h).2 ho) (by decide)⟩, fun h => absurd h (by decide)⟩⟩, rfl⟩
  | true =>
    repeat' (first | (show J _ _ _ (runS _ _ _ _ (⟨_, _, _, _, _, none⟩ :: _)); (show J _ _ _ (runS _ _ _ _ (⟨_, .unOp _ _ _, _, _, _, _⟩ :: _)); ((refine j_not_b rfl rfl ?_)))) | refine j_nil ?_ | refine j_then ?_)
    refine j_false rfl ?_
    refine j_skip ?_
    refine j_then ?_
    refine j_seq ?_
    refine j_seq ?_
    refine j_region ?_
    repeat' (first | (show J _ _ _ (runS _ _ _ _ (⟨_, _, _, _, _, none⟩ :: _)); first | (show J _ _ _ (runS _ _ _ _ (⟨_, .load _ _, _, _, _, _⟩ :: _)); ((refine j_load rfl rfl (by repeat constructor) rfl rfl ?_))) | (show J _ _ _ (runS _ _ _ _ (⟨_, .fieldAddr _ _ _, _, _, _, _⟩ :: _)); refine j_fieldAddr rfl rfl ?_) | (show J _ _ _ (runS _ _ _ _ (⟨_, .binOp _ _ _ _ _, _, _, _, _⟩ :: _)); ((refine j_bin rfl rfl rfl rfl ?_)))) | refine j_nil ?_ | refine j_then ?_)
    refine j_dec rfl (fun h => ?_) (fun h => ?_)
    · exfalso; omega
    refine j_skip ?_
    refine j_then ?_
    refine j_seq ?_
    refine j_region ?_
    repeat' (first | (show J _ _ _ (runS _ _ _ _ (⟨_, _, _, _, _, none⟩ :: _)); (show J _ _ _ (runS _ _ _ _ (⟨_, .assign _, _, _, _, _⟩ :: _)); refine j_assign rfl rfl ?_)) | refine j_nil ?_ | refine j_then ?_)
    refine j_seq ?_
    refine j_cutR (X := { x : ByteArray // k = 4 → x = ⟨#[]⟩ }) (fun q => [(1, .pointer (some ⟨b, 0, none⟩)), (4, .string q.1)]) (fun _ => blk b 46 [.int .i64 k, .int .i64 i, .int .i64 s, .int .i64 n, .int .i64 c.op, .string c.nm, .string c.oo, .int .i64 c.v.a, .int .i64 c.v.b, .int .i64 c.v.c, .int .i64 c.n] :: (Lp ++ F)) ?_ (fun q => ?_)
    · repeat' (first | (show J _ _ _ (runS _ _ _ _ (⟨_, _, _, _, _, none⟩ :: _)); first | (show J _ _ _ (runS _ _ _ _ (⟨_, .move _, _, _, _, _⟩ :: _)); refine j_move rfl rfl ?_) | (show J _ _ _ (runS _ _ _ _ (⟨_, .load _ _, _, _, _, _⟩ :: _)); ((refine j_load rfl rfl (by repeat constructor) rfl rfl ?_))) | (show J _ _ _ (runS _ _ _ _ (⟨_, .fieldAddr _ _ _, _, _, _, _⟩ :: _)); refine j_fieldAddr rfl rfl ?_) | (show J _ _ _ (runS _ _ _ _ (⟨_, .binOp _ _ _ _ _, _, _, _, _⟩ :: _)); ((refine j_bin rfl rfl rfl rfl ?_))) | (show J _ _ _ (runS _ _ _ _ (⟨_, .assign _, _, _, _, _⟩ :: _)); refine j_assign rfl rfl ?_) | (show J _ _ _ (runS _ _ _ _ (⟨_, .pick _ _ _, _, _, _, _⟩ :: _)); (first | refine j_pick_t rfl rfl rfl ?_ | refine j_pick_f rfl rfl rfl ?_)) | (show J _ _ _ (runS _ _ _ _ (⟨_, .extract _ _, _, _, _, _⟩ :: _)); refine j_extract rfl rfl rfl ?_)) | refine j_nil ?_ | (show J _ _ _ (runS _ _ _ _ (⟨_, _, _, _, _, some _⟩ :: _)); first | refine j_gno_u rfl rfl rfl rfl ?_ | refine j_gyes rfl rfl rfl ?_ | refine j_gsplit_dec rfl rfl (fun h => ?_) (fun h => ?_)) | (show J _ _ _ (Code.wp _ _ _); first | refine j_seq ?_ | refine j_region ?_ | (show J _ _ _ (Code.wp _ (.cond _ _ _) _); first | refine j_true rfl ?_ | refine j_dec rfl (fun h => ?_) (fun h => ?_)) | refine j_skip ?_) | refine j_then ?_ | (show J _ _ _ (runS _ _ _ _ (⟨_, .load 44 _, _, _, _, _⟩ :: _)); refine j_loads [.int .i64 c.op, .string c.nm, .string c.oo, .int .i64 c.v.a, .int .i64 c.v.b, .int .i64 c.v.c, .int .i64 c.n] rfl rfl rfl (by repeat constructor) ⟨rfl, rfl, rfl, rfl, rfl, rfl, rfl, trivial⟩ rfl ?_) | (refine j_call rfl rfl (benc_spec c hc.1 hc.2.1 hc.2.2.1 hc.2.2.2.1 hc.2.2.2.2.1 hc.2.2.2.2.2.1 hc.2.2.2.2.2.2 []) (.refl) rfl (fun v M N h hN => ?_); obtain ⟨⟨s2, e, rfl, he⟩, rfl⟩ := h; (try simp only [List.nil_append, List.cons_append, List.append_assoc] at hN); subst hN))
      all_goals first
        | exact j_cutRend (Y := { x : ByteArray // k = 4 → x = ⟨#[]⟩ }) ⟨_, fun _ => rfl⟩ ⟨rfl, rfl, trivial⟩ .refl
        | exact j_cutRend (Y := { x : ByteArray // k = 4 → x = ⟨#[]⟩ }) ⟨_, fun h4 => absurd h4 (by omega)⟩ ⟨rfl, rfl, trivial⟩ .refl
    obtain ⟨x, hx⟩ := q
    dsimp only
    repeat' (first | (show J _ _ _ (Code.wp _ _ _); (refine j_seq ?_)) | refine j_then ?_)
    refine j_inv [31, 32, 33, 34, 35, 36, 37, 38, 39, 40, 41, 42, 43, 44] [[], [0], [1], [], [3], [4], [], [6], [7], [], [9], [10], [], [12]] (.take 14 (.take 15 (.take 16 (.take 17 (.take 18 (.take 19 (.take 20 (.take 21 (.done))))))))) ([(1, .pointer (some ⟨b, 0, none⟩)), (4, .string x)]) (fun i' y v => match i' with
    | 0 => v = .pointer (some ⟨b, 0 + 0, none⟩)
    | 1 => v = .int .i64 k
    | 2 => v = numA k
    | 3 => v = .pointer (some ⟨b, 0 + 1, none⟩)
    | 4 => v = .int .i64 i
    | 5 => v = numA i
    | 6 => v = .pointer (some ⟨b, 0 + 2, none⟩)
    | 7 => v = .int .i64 s
    | 8 => v = numA s
    | 9 => v = .pointer (some ⟨b, 0 + 3, none⟩)
    | 10 => v = .int .i64 n
    | 11 => v = numA n
    | 12 => v = .string x
    | _ => v = txtA x) 0 (fun _ => []) (by decide +kernel) ⟨rfl, rfl, trivial⟩ rfl ?_ ?_
    · refine ⟨fun x G hG hf => ?_, fun x G hG hf => ?_, fun x G hG hf => ?_, fun x G hG hf => ?_, fun x G hG hf => ?_, fun x G hG hf => ?_, fun x G hG hf => ?_, fun x G hG hf => ?_, fun x G hG hf => ?_, fun x G hG hf => ?_, fun x G hG hf => ?_, fun x G hG hf => ?_, fun x G hG hf => ?_, fun x G hG hf => ?_, trivial⟩
      all_goals (obtain rfl : G = [] := (by rcases hG with h | ⟨_, h⟩ <;> exact h))
      · repeat' (first | (show J _ _ _ (runS _ _ _ _ (⟨_, _, _, _, _, none⟩ :: _)); (show J _ _ _ (runS _ _ _ _ (⟨_, .fieldAddr _ _ _, _, _, _, _⟩ :: _)); refine j_fieldAddr rfl rfl ?_)) | refine j_nil ?_)
        exact j_endI _ rfl rfl (by repeat ((exact .refl)))
      · (obtain ⟨h0, -⟩ := hf; have h0 : x 0 = _ := h0; show J _ ((31, x 0) :: _) _ _; rw [h0])
        repeat' (first | (show J _ _ _ (runS _ _ _ _ (⟨_, _, _, _, _, none⟩ :: _)); (show J _ _ _ (runS _ _ _ _ (⟨_, .load _ _, _, _, _, _⟩ :: _)); ((refine j_load rfl rfl (by repeat constructor) rfl rfl ?_)))) | refine j_nil ?_)
        exact j_endI _ rfl rfl (by repeat ((exact .refl)))
      · (obtain ⟨h0, -⟩ := hf; have h0 : x 1 = _ := h0; show J _ ((32, x 1) :: _) _ _; rw [h0])
        ((refine j_call rfl rfl (anum_spec _ []) (.refl) rfl (fun v M N h hN => ?_); obtain ⟨rfl, rfl⟩ := h; (try simp only [List.nil_append, List.cons_append, List.append_assoc] at hN); subst hN); refine j_nil ?_; exact j_endI _ rfl rfl (by repeat ((exact .refl))))
      · repeat' (first | (show J _ _ _ (runS _ _ _ _ (⟨_, _, _, _, _, none⟩ :: _)); (show J _ _ _ (runS _ _ _ _ (⟨_, .fieldAddr _ _ _, _, _, _, _⟩ :: _)); refine j_fieldAddr rfl rfl ?_)) | refine j_nil ?_)
        exact j_endI _ rfl rfl (by repeat ((exact .refl)))
      · (obtain ⟨h0, -⟩ := hf; have h0 : x 3 = _ := h0; show J _ ((34, x 3) :: _) _ _; rw [h0])
        repeat' (first | (show J _ _ _ (runS _ _ _ _ (⟨_, _, _, _, _, none⟩ :: _)); (show J _ _ _ (runS _ _ _ _ (⟨_, .load _ _, _, _, _, _⟩ :: _)); ((refine j_load rfl rfl (by repeat constructor) rfl rfl ?_)))) | refine j_nil ?_)
        exact j_endI _ rfl rfl (by repeat ((exact .refl)))
      · (obtain ⟨h0, -⟩ := hf; have h0 : x 4 = _ := h0; show J _ ((35, x 4) :: _) _ _; rw [h0])
        ((refine j_call rfl rfl (anum_spec _ []) (.refl) rfl (fun v M N h hN => ?_); obtain ⟨rfl, rfl⟩ := h; (try simp only [List.nil_append, List.cons_append, List.append_assoc] at hN); subst hN); refine j_nil ?_; exact j_endI _ rfl rfl (by repeat ((exact .refl))))
      · repeat' (first | (show J _ _ _ (runS _ _ _ _ (⟨_, _, _, _, _, none⟩ :: _)); (show J _ _ _ (runS _ _ _ _ (⟨_, .fieldAddr _ _ _, _, _, _, _⟩ :: _)); refine j_fieldAddr rfl rfl ?_)) | refine j_nil ?_)
        exact j_endI _ rfl rfl (by repeat ((exact .refl)))
      · (obtain ⟨h0, -⟩ := hf; have h0 : x 6 = _ := h0; show J _ ((37, x 6) :: _) _ _; rw [h0])
        repeat' (first | (show J _ _ _ (runS _ _ _ _ (⟨_, _, _, _, _, none⟩ :: _)); (show J _ _ _ (runS _ _ _ _ (⟨_, .load _ _, _, _, _, _⟩ :: _)); ((refine j_load rfl rfl (by repeat constructor) rfl rfl ?_)))) | refine j_nil ?_)
        exact j_endI _ rfl rfl (by repeat ((exact .refl)))
      · (obtain ⟨h0, -⟩ := hf; have h0 : x 7 = _ := h0; show J _ ((38, x 7) :: _) _ _; rw [h0])
        ((refine j_call rfl rfl (anum_spec _ []) (.refl) rfl (fun v M N h hN => ?_); obtain ⟨rfl, rfl⟩ := h; (try simp only [List.nil_append, List.cons_append, List.append_assoc] at hN); subst hN); refine j_nil ?_; exact j_endI _ rfl rfl (by repeat ((exact .refl))))
      · repeat' (first | (show J _ _ _ (runS _ _ _ _ (⟨_, _, _, _, _, none⟩ :: _)); (show J _ _ _ (runS _ _ _ _ (⟨_, .fieldAddr _ _ _, _, _, _, _⟩ :: _)); refine j_fieldAddr rfl rfl ?_)) | refine j_nil ?_)
        exact j_endI _ rfl rfl (by repeat ((exact .refl)))
      · (obtain ⟨h0, -⟩ := hf; have h0 : x 9 = _ := h0; show J _ ((40, x 9) :: _) _ _; rw [h0])
        repeat' (first | (show J _ _ _ (runS _ _ _ _ (⟨_, _, _, _, _, none⟩ :: _)); (show J _ _ _ (runS _ _ _ _ (⟨_, .load _ _, _, _, _, _⟩ :: _)); ((refine j_load rfl rfl (by repeat constructor) rfl rfl ?_)))) | refine j_nil ?_)
        exact j_endI _ rfl rfl (by repeat ((exact .refl)))
      · (obtain ⟨h0, -⟩ := hf; have h0 : x 10 = _ := h0; show J _ ((41, x 10) :: _) _ _; rw [h0])
        ((refine j_call rfl rfl (anum_spec _ []) (.refl) rfl (fun v M N h hN => ?_); obtain ⟨rfl, rfl⟩ := h; (try simp only [List.nil_append, List.cons_append, List.append_assoc] at hN); subst hN); refine j_nil ?_; exact j_endI _ rfl rfl (by repeat ((exact .refl))))
      · repeat' (first | (show J _ _ _ (runS _ _ _ _ (⟨_, _, _, _, _, none⟩ :: _)); (show J _ _ _ (runS _ _ _ _ (⟨_, .move _, _, _, _, _⟩ :: _)); refine j_move rfl rfl ?_)) | refine j_nil ?_)
        exact j_endI _ rfl rfl (by repeat ((exact .refl)))
      · (obtain ⟨h0, -⟩ := hf; have h0 : x 12 = _ := h0; show J _ ((43, x 12) :: _) _ _; rw [h0])
        ((refine j_call rfl rfl (astr_spec _ []) (.refl) rfl (fun v M N h hN => ?_); obtain ⟨rfl, rfl⟩ := h; (try simp only [List.nil_append, List.cons_append, List.append_assoc] at hN); subst hN); refine j_nil ?_; exact j_endI _ rfl rfl (by repeat ((exact .refl))))
    · intro y hf
      obtain ⟨-, -, h2', -, -, h5', -, -, h8', -, -, h11', -, h13', -⟩ := hf
      have h2' : y 2 = _ := h2'
      have h5' : y 5 = _ := h5'
      have h8' : y 8 = _ := h8'
      have h11' : y 11 = _ := h11'
      have h13' : y 13 = _ := h13'
      show J _ ((31, y 0) :: (32, y 1) :: (33, y 2) :: (34, y 3) :: (35, y 4) :: (36, y 5) :: (37, y 6) :: (38, y 7) :: (39, y 8) :: (40, y 9) :: (41, y 10) :: (42, y 11) :: (43, y 12) :: (44, y 13) :: _) _ _
      rw [h2', h5', h8', h11', h13']
      refine j_take rfl ?_
      refine j_lits (α := IA) rfl [_, _, _, _, _] [IA.num k none 0, .num i none 0, .num s none 0, .num n none 0, .txt x none 0] ⟨rfl, rfl, rfl, rfl, rfl, rfl, rfl, rfl, rfl, rfl, trivial⟩ rfl rfl (by decide) (by decide) rfl (fun b0 => ?_)
      repeat' (first | refine j_nil ?_ | (show J _ _ _ (runT _ _ _ _ _); (refine j_take rfl ?_)))
      (refine j_call rfl rfl (arow_spec (some ⟨b0, 0, none⟩) 5 [IA.num k none 0, .num i none 0, .num s none 0, .num n none 0, .txt x none 0] []) (.refl) rfl (fun v M N h hN => ?_); obtain ⟨rfl, rfl⟩ := h; (try simp only [List.nil_append, List.cons_append, List.append_assoc] at hN); subst hN)
      repeat' (first | refine j_nil ?_ | (show J _ _ _ (runT _ _ _ _ _); (refine j_take rfl ?_)))
      (refine j_call rfl rfl (aenc_spec (itS k i s n x b0) (itS_cnt k i s n x b0) (itS_dp k i s n x b0) (itS_ran k i s n x b0 ⟨by omega, by omega⟩ h2 h3 h4) [Sl 64 (some ⟨b0, 0, none⟩) 5 [IA.num k none 0, .num i none 0, .num s none 0, .num n none 0, .txt x none 0]] (itS_sees k i s n x b0)) ((by repeat ((exact .refl)))) rfl (fun v M N h hN => ?_); obtain (⟨hb, rfl, rfl⟩ | ⟨hb, a, cp, rfl, rfl⟩) := h; (try simp only [List.nil_append, List.cons_append, List.append_assoc] at hN); subst hN)
      · have hno : ¬ k = 4 := fun h => by
          rw [hx h] at hb
          simp only [itS, bigT, bigTL, Bool.or_false, Bool.false_or] at hb
          revert hb
          decide
        repeat' (first | (show J _ _ _ (runS _ _ _ _ (⟨_, _, _, _, _, none⟩ :: _)); first | (show J _ _ _ (runS _ _ _ _ (⟨_, .move _, _, _, _, _⟩ :: _)); refine j_move rfl rfl ?_) | (show J _ _ _ (runS _ _ _ _ (⟨_, .assign _, _, _, _, _⟩ :: _)); refine j_assign rfl rfl ?_) | (show J _ _ _ (runS _ _ _ _ (⟨_, .extract _ _, _, _, _, _⟩ :: _)); refine j_extract rfl rfl rfl ?_)) | refine j_nil ?_ | (show J _ _ _ (Code.wp _ _ _); first | refine j_seq ?_ | refine j_region ?_) | (show J _ _ _ (runT _ _ _ _ _); first | refine j_take rfl ?_ | refine j_done ?_) | refine j_then ?_)
        refine j_sl0 (α := UInt8) 5 none ?_
        refine j_bytesV (M := [Sl 5 none 0 ([] : List UInt8)]) rfl (by repeat ((exact .refl))) sees_sl rfl rfl ?_
        repeat' (first | (show J _ _ _ (runS _ _ _ _ (⟨_, _, _, _, _, none⟩ :: _)); (show J _ _ _ (runS _ _ _ _ (⟨_, .assign _, _, _, _, _⟩ :: _)); refine j_assign rfl rfl ?_)) | refine j_nil ?_ | (show J _ _ _ (Code.wp _ _ _); (refine j_ret ?_)) | refine j_then ?_)
        exact j_ret2 (M := Lp) rfl rfl rfl (by repeat (first | exact .refl | refine .drop ?_)) ⟨⟨_, 0, rfl, fun h => absurd h hno⟩, rfl⟩
      · simp only [List.cons_append, List.nil_append] at hN
        subst hN
        repeat' (first | (show J _ _ _ (runS _ _ _ _ (⟨_, _, _, _, _, none⟩ :: _)); first | (show J _ _ _ (runS _ _ _ _ (⟨_, .move _, _, _, _, _⟩ :: _)); refine j_move rfl rfl ?_) | (show J _ _ _ (runS _ _ _ _ (⟨_, .assign _, _, _, _, _⟩ :: _)); refine j_assign rfl rfl ?_) | (show J _ _ _ (runS _ _ _ _ (⟨_, .extract _ _, _, _, _, _⟩ :: _)); refine j_extract rfl rfl rfl ?_)) | refine j_nil ?_ | (show J _ _ _ (Code.wp _ _ _); first | refine j_seq ?_ | refine j_region ?_) | (show J _ _ _ (runT _ _ _ _ _); first | refine j_take rfl ?_ | refine j_done ?_) | refine j_then ?_)
        refine j_bytesV (M := [Sl 5 a cp (encV (plI (itS k i s n x b0)))]) rfl (by repeat ((exact .refl))) sees_sl rfl rfl ?_
        repeat' (first | (show J _ _ _ (runS _ _ _ _ (⟨_, _, _, _, _, none⟩ :: _)); (show J _ _ _ (runS _ _ _ _ (⟨_, .assign _, _, _, _, _⟩ :: _)); refine j_assign rfl rfl ?_)) | refine j_nil ?_ | (show J _ _ _ (Code.wp _ _ _); (refine j_ret ?_)) | refine j_then ?_)
        refine j_ret2 (M := Lp) rfl rfl rfl (by repeat (first | exact .refl | refine .drop ?_)) ⟨⟨_, 0, rfl, fun h => ⟨⟨fun _ => (hq h).1 rfl, fun _ => rfl⟩, fun _ => ?_⟩⟩, rfl⟩
        obtain ⟨e1, e2, -, -, -⟩ := (hq h).1 rfl
        have e1 : i = 0 := e1
        have e2 : s = 0 := e2
        have e3 := hx h
        have e4 : k = 4 := h
        rw [e1, e2, e3, e4]
        simp [itS, plI, plIL, dB]
end Go.Proofs.Ytnmfpgfgjjmfhaa
end

section
set_option linter.unusedVariables false
set_option linter.unusedSimpArgs false
set_option maxRecDepth 100000
namespace Go.Proofs.Ytnmfpgfgjjmfhaa
open Go
attribute [local irreducible] Exit.then Exit.inBlock Code.wp runS bodyPost postF J runT cutQ cutR Tr Sat blk Sl Old Star Ex Pu
attribute [local irreducible] ItH ItHL
def DecC (d : ByteArray) (r : Option Int) : Prop := ∀ Lp, Tr Try.prog 28 [.string d] Lp (fun v M => (∃ (k i s n : Int) (op : Int) (nm tn : ByteArray) (v0 v1 v2 cn : Int) (e : Int), v = .tuple #[.agg #[.int .i64 k, .int .i64 i, .int .i64 s, .int .i64 n, .int .i64 op, .string nm, .string tn, .int .i64 v0, .int .i64 v1, .int .i64 v2, .int .i64 cn], .int .i64 e] ∧ r = (if e = 0 ∧ k = 4 then some n else none)) ∧ M = Lp)
theorem wdecC (d : ByteArray) (hsz : d.size ≤ 9223372036854775807) : DecC d (decO d) := by
  intro Lp
  refine tr_enter Try.func28 rfl Try.ntmps28 rfl (fun F => ?_)
  repeat' (first | (show J _ _ _ (runS _ _ _ _ (⟨_, _, _, _, _, none⟩ :: _)); first | (show J _ _ _ (runS _ _ _ _ (⟨_, .move _, _, _, _, _⟩ :: _)); refine j_move rfl rfl ?_) | (show J _ _ _ (runS _ _ _ _ (⟨_, .binOp _ _ _ _ _, _, _, _, _⟩ :: _)); ((refine j_eqstr rfl rfl rfl ?_))) | (show J _ _ _ (runS _ _ _ _ (⟨_, .assign _, _, _, _, _⟩ :: _)); refine j_assign rfl rfl ?_) | (show J _ _ _ (runS _ _ _ _ (⟨_, .store _ _ _, _, _, _, _⟩ :: _)); ((refine j_sets rfl rfl rfl (by rfl) (by repeat constructor) (by repeat constructor) (by rfl) ?_))) | (show J _ _ _ (runS _ _ _ _ (⟨_, .build _ _, _, _, _, _⟩ :: _)); refine j_build rfl (by repeat constructor) rfl ?_) | (show J _ _ _ (runS _ _ _ _ (⟨_, .alloc _, _, _, _, _⟩ :: _)); refine j_alloc rfl (fun b => ?_))) | refine j_nil ?_ | (show J _ _ _ (Code.wp _ _ _); first | refine j_seq ?_ | refine j_region ?_ | (show J _ _ _ (Code.wp _ (.cond _ _ _) _); (refine j_dec rfl (fun h => ?_) (fun h => ?_))) | refine j_ret ?_ | refine j_skip ?_) | refine j_then ?_ | refine j_then_ret ?_)
  · have h0 : decO d = none := by
      have hd : d = ⟨#[]⟩ := by assumption
      subst hd
      rfl
    exact j_retc2 [.int .i64 0, .int .i64 0, .int .i64 0, .int .i64 0, .int .i64 0, .string ⟨#[]⟩, .string ⟨#[]⟩, .int .i64 0, .int .i64 0, .int .i64 0, .int .i64 0] rfl rfl rfl (by repeat constructor) rfl ⟨rfl, rfl, rfl, rfl, rfl, rfl, rfl, rfl, rfl, rfl, rfl, trivial⟩ rfl (M := Lp) (by repeat (first | exact .refl | refine .drop ?_)) ⟨⟨0, 0, 0, 0, 0, ⟨#[]⟩, ⟨#[]⟩, 0, 0, 0, 0, 0, rfl, by rw [h0]; rfl⟩, rfl⟩
  obtain ⟨bo, hbo⟩ : ∃ b', b' = b := ⟨_, rfl⟩
  subst hbo
  have hsl : d.data.toList.length = d.size := Array.length_toList
  refine j_strBytes rfl rfl (fun b1 c1 junk hc1 => ?_)
  (refine j_call rfl rfl (cdec_spec (some ⟨b1, 0, none⟩) c1 d.data.toList hc1 (by omega) [blk b1 5 (byteRow d.data.toList junk)] sees_row) ((by repeat ((exact .refl)))) rfl (fun v M N h hN => ?_); obtain (⟨t, left', h1, rfl, rfl⟩ | ⟨h1, rfl, rfl⟩) := h; (try simp only [List.nil_append, List.cons_append, List.append_assoc] at hN); subst hN)
  rotate_left
  · simp only [List.cons_append, List.nil_append] at hN
    subst hN
    have h0 := decO_none h1
    repeat' (first | (show J _ _ _ (runS _ _ _ _ (⟨_, _, _, _, _, none⟩ :: _)); first | (show J _ _ _ (runS _ _ _ _ (⟨_, .move _, _, _, _, _⟩ :: _)); refine j_move rfl rfl ?_) | (show J _ _ _ (runS _ _ _ _ (⟨_, .binOp _ _ _ _ _, _, _, _, _⟩ :: _)); ((refine j_bin rfl rfl rfl rfl ?_))) | (show J _ _ _ (runS _ _ _ _ (⟨_, .assign _, _, _, _, _⟩ :: _)); refine j_assign rfl rfl ?_) | (show J _ _ _ (runS _ _ _ _ (⟨_, .store _ _ _, _, _, _, _⟩ :: _)); ((refine j_sets rfl rfl rfl (by rfl) (by repeat constructor) (by repeat constructor) (by rfl) ?_))) | (show J _ _ _ (runS _ _ _ _ (⟨_, .pick _ _ _, _, _, _, _⟩ :: _)); ((refine j_pick_t rfl rfl rfl ?_))) | (show J _ _ _ (runS _ _ _ _ (⟨_, .build _ _, _, _, _, _⟩ :: _)); refine j_build rfl (by repeat constructor) rfl ?_) | (show J _ _ _ (runS _ _ _ _ (⟨_, .extract _ _, _, _, _, _⟩ :: _)); refine j_extract rfl rfl rfl ?_) | (show J _ _ _ (runS _ _ _ _ (⟨_, .alloc _, _, _, _, _⟩ :: _)); refine j_alloc rfl (fun b => ?_))) | refine j_nil ?_ | (show J _ _ _ (runS _ _ _ _ (⟨_, _, _, _, _, some _⟩ :: _)); (refine j_gno_u rfl rfl rfl rfl ?_)) | (show J _ _ _ (Code.wp _ _ _); first | refine j_seq ?_ | refine j_region ?_ | (show J _ _ _ (Code.wp _ (.cond _ _ _) _); (refine j_true rfl ?_)) | refine j_ret ?_) | refine j_then ?_ | refine j_then_ret ?_)
    exact j_retc2 [.int .i64 0, .int .i64 0, .int .i64 0, .int .i64 0, .int .i64 0, .string ⟨#[]⟩, .string ⟨#[]⟩, .int .i64 0, .int .i64 0, .int .i64 0, .int .i64 0] rfl rfl rfl (by repeat constructor) rfl ⟨rfl, rfl, rfl, rfl, rfl, rfl, rfl, rfl, rfl, rfl, rfl, trivial⟩ rfl (M := Lp) (by repeat (first | exact .refl | refine .drop ?_)) ⟨⟨0, 0, 0, 0, 0, ⟨#[]⟩, ⟨#[]⟩, 0, 0, 0, 0, 4, rfl, (by rw [show decO d = none from h0, if_neg (by decide)])⟩, rfl⟩
  have hd := decO_of h1
  have hvb := (itemP_canon _ _ _ _ _ _ h1).2
  have hok : Sees [ItH t] (fun w => OkI w t) := sees_it .z
  have n5 : (lsI t).length ≠ 5 → decO d = none := fun h => Classical.byContradiction fun hn => by
    obtain ⟨-, t0, t1, t2, t3, t4, hl, -⟩ := decV_form (hd ▸ hn)
    exact h (by rw [hl]; rfl)
  rw [cells_is t]
  repeat' (first | (show J _ _ _ (runS _ _ _ _ (⟨_, _, _, _, _, none⟩ :: _)); first | (show J _ _ _ (runS _ _ _ _ (⟨_, .move _, _, _, _, _⟩ :: _)); refine j_move rfl rfl ?_) | (show J _ _ _ (runS _ _ _ _ (⟨_, .load _ _, _, _, _, _⟩ :: _)); ((refine j_load rfl rfl (by repeat constructor) rfl rfl ?_))) | (show J _ _ _ (runS _ _ _ _ (⟨_, .fieldAddr _ _ _, _, _, _, _⟩ :: _)); refine j_fieldAddr rfl rfl ?_) | (show J _ _ _ (runS _ _ _ _ (⟨_, .binOp _ _ _ _ _, _, _, _, _⟩ :: _)); ((refine j_bin rfl rfl rfl rfl ?_))) | (show J _ _ _ (runS _ _ _ _ (⟨_, .assign _, _, _, _, _⟩ :: _)); refine j_assign rfl rfl ?_) | (show J _ _ _ (runS _ _ _ _ (⟨_, .store _ _ _, _, _, _, _⟩ :: _)); ((refine j_sets rfl rfl rfl (by rfl) (by repeat constructor) (by repeat constructor) (by rfl) ?_))) | (show J _ _ _ (runS _ _ _ _ (⟨_, .pick _ _ _, _, _, _, _⟩ :: _)); (first | refine j_pick_t rfl rfl rfl ?_ | refine j_pick_f rfl rfl rfl ?_)) | (show J _ _ _ (runS _ _ _ _ (⟨_, .call ⟨.builtin .len, _, _⟩, _, _, _, _⟩ :: _)); ((refine j_len rfl rfl ?_))) | (show J _ _ _ (runS _ _ _ _ (⟨_, .build _ _, _, _, _, _⟩ :: _)); refine j_build rfl (by repeat constructor) rfl ?_) | (show J _ _ _ (runS _ _ _ _ (⟨_, .extract _ _, _, _, _, _⟩ :: _)); refine j_extract rfl rfl rfl ?_) | (show J _ _ _ (runS _ _ _ _ (⟨_, .alloc _, _, _, _, _⟩ :: _)); refine j_alloc rfl (fun b => ?_))) | refine j_nil ?_ | (show J _ _ _ (runS _ _ _ _ (⟨_, _, _, _, _, some _⟩ :: _)); first | refine j_gno_u rfl rfl rfl rfl ?_ | refine j_gyes rfl rfl rfl ?_ | refine j_gsplit_dec rfl rfl (fun h => ?_) (fun h => ?_)) | (show J _ _ _ (Code.wp _ _ _); first | refine j_seq ?_ | refine j_region ?_ | (show J _ _ _ (Code.wp _ (.cond _ _ _) _); (refine j_true rfl ?_)) | refine j_ret ?_) | refine j_then ?_ | refine j_then_ret ?_)
  · exact j_retc2 [.int .i64 0, .int .i64 0, .int .i64 0, .int .i64 0, .int .i64 0, .string ⟨#[]⟩, .string ⟨#[]⟩, .int .i64 0, .int .i64 0, .int .i64 0, .int .i64 0] rfl rfl rfl (by repeat constructor) rfl ⟨rfl, rfl, rfl, rfl, rfl, rfl, rfl, rfl, rfl, rfl, rfl, trivial⟩ rfl (M := Lp) (by repeat (first | exact .refl | refine .drop ?_)) ⟨⟨0, 0, 0, 0, 0, ⟨#[]⟩, ⟨#[]⟩, 0, 0, 0, 0, 4, rfl, (by rw [show decO d = none from n5 (by omega), if_neg (by decide)])⟩, rfl⟩
  have hl5 : (lsI t).length = 5 := by omega
  obtain ⟨t0, t1, t2, t3, t4, hts⟩ := list5' hl5
  have form : ∀ m, decO d = some m → numI t0 = 4 ∧ numI t1 = 0 ∧ numI t2 = 0 ∧ m = numI t3 ∧ 1 ≤ numI t3 ∧ numI t3 ≤ 127 ∧ strI t4 = ⟨#[]⟩ := fun m hm => by
    obtain ⟨hk3, u0, u1, u2, u3, u4, hl, k0, k1, k2, k3, k4⟩ := decV_form (t := t) (by rw [← hd, hm]; simp)
    rw [hts] at hl
    simp only [List.cons.injEq, and_true] at hl
    obtain ⟨rfl, rfl, rfl, rfl, rfl⟩ := hl
    have val := decV_is hk3 hts k0 k1 k2 k3 k4
    rw [← hd, hm] at val
    split at val
    · rename_i hh
      simp only [Option.some.injEq] at val
      exact ⟨hh.1, hh.2.1, hh.2.2.1, val, hh.2.2.2.1, hh.2.2.2.2.1, hh.2.2.2.2.2⟩
    · cases val
  have nof : (∀ m, decO d ≠ some m) → decO d = none := fun h => by
    cases hh : decO d with
    | none => rfl
    | some m => exact absurd hh (h m)
  have hg0 : (lsI t)[0]? = some t0 := by rw [hts]; rfl
  have hg1 : (lsI t)[1]? = some t1 := by rw [hts]; rfl
  have hg2 : (lsI t)[2]? = some t2 := by rw [hts]; rfl
  have hg3 : (lsI t)[3]? = some t3 := by rw [hts]; rfl
  have hg4 : (lsI t)[4]? = some t4 := by rw [hts]; rfl
  have hn1 := ran_num (vb_ran _ (vb_at hvb hg1))
  have hn2 := ran_num (vb_ran _ (vb_at hvb hg2))
  have hn3 := ran_num (vb_ran _ (vb_at hvb hg3))
  have hs4 := vb_str (vb_at hvb hg4)
  refine j_idx (α := IA) (M := [ItH t]) rfl rfl (by repeat (first | exact .refl | apply Pk.cons | constructor)) hok.ok_vw rfl 0 rfl (by omega) rfl (fun b3 o3 ha3 hc3 => ?_)
  repeat' (first | (show J _ _ _ (runS _ _ _ _ (⟨_, _, _, _, _, none⟩ :: _)); (show J _ _ _ (runS _ _ _ _ (⟨_, .fieldAddr _ _ _, _, _, _, _⟩ :: _)); refine j_fieldAddr rfl rfl ?_)) | (show J _ _ _ (runS _ _ _ _ (⟨_, _, _, _, _, some _⟩ :: _)); (refine j_gyes rfl rfl rfl ?_)))
  refine j_loadv (M := [ItH t]) (v := .int .i64 (numI t0)) rfl rfl (by repeat (first | exact .refl | apply Pk.cons | constructor)) (hc3 1 _ (by show (cellsI (lsI t)[0])[1]? = _; rw [show (lsI t)[0] = t0 from by simp [hts], cells_is]; rfl)) rfl ?_
  repeat' ((show J _ _ _ (runS _ _ _ _ (⟨_, _, _, _, _, some _⟩ :: _)); (refine j_gyes rfl rfl rfl ?_)))
  (refine j_call rfl rfl (cwithin_spec (numI t0) 1 5 []) (.refl) rfl (fun v M N h hN => ?_); obtain ⟨rfl, rfl⟩ := h; (try simp only [List.nil_append, List.cons_append, List.append_assoc] at hN); subst hN)
  repeat' (first | (show J _ _ _ (runS _ _ _ _ (⟨_, _, _, _, _, none⟩ :: _)); first | (show J _ _ _ (runS _ _ _ _ (⟨_, .load _ _, _, _, _, _⟩ :: _)); ((refine j_load rfl rfl (by repeat constructor) rfl rfl ?_))) | (show J _ _ _ (runS _ _ _ _ (⟨_, .fieldAddr _ _ _, _, _, _, _⟩ :: _)); refine j_fieldAddr rfl rfl ?_) | (show J _ _ _ (runS _ _ _ _ (⟨_, .assign _, _, _, _, _⟩ :: _)); refine j_assign rfl rfl ?_) | (show J _ _ _ (runS _ _ _ _ (⟨_, .store _ _ _, _, _, _, _⟩ :: _)); ((refine j_sets rfl rfl rfl (by rfl) (by repeat constructor) (by repeat constructor) (by rfl) ?_))) | (show J _ _ _ (runS _ _ _ _ (⟨_, .pick _ _ _, _, _, _, _⟩ :: _)); ((refine j_pick_f rfl rfl rfl ?_))) | (show J _ _ _ (runS _ _ _ _ (⟨_, .unOp _ _ _, _, _, _, _⟩ :: _)); ((refine j_not rfl rfl ?_))) | (show J _ _ _ (runS _ _ _ _ (⟨_, .build _ _, _, _, _, _⟩ :: _)); refine j_build rfl (by repeat constructor) rfl ?_)) | refine j_nil ?_ | (show J _ _ _ (runS _ _ _ _ (⟨_, _, _, _, _, some _⟩ :: _)); (refine j_gyes rfl rfl rfl ?_)) | (show J _ _ _ (Code.wp _ _ _); first | refine j_seq ?_ | refine j_region ?_ | (show J _ _ _ (Code.wp _ (.cond _ _ _) _); (refine j_dec rfl (fun h => ?_) (fun h => ?_))) | refine j_ret ?_ | refine j_skip ?_ | refine j_draw (by decide +kernel) ?_) | refine j_then ?_ | refine j_then_ret ?_)
  · exact j_retc2 [.int .i64 0, .int .i64 0, .int .i64 0, .int .i64 0, .int .i64 0, .string ⟨#[]⟩, .string ⟨#[]⟩, .int .i64 0, .int .i64 0, .int .i64 0, .int .i64 0] rfl rfl rfl (by repeat constructor) rfl ⟨rfl, rfl, rfl, rfl, rfl, rfl, rfl, rfl, rfl, rfl, rfl, trivial⟩ rfl (M := Lp) (by repeat (first | exact .refl | refine .drop ?_)) ⟨⟨0, 0, 0, 0, 0, ⟨#[]⟩, ⟨#[]⟩, 0, 0, 0, 0, 4, rfl, (by rw [show decO d = none from nof fun m hm => absurd (form m hm).1 (by omega), if_neg (by decide)])⟩, rfl⟩
  have hb : 1 ≤ numI t0 ∧ numI t0 ≤ 5 := by omega
  refine j_idx (α := IA) (M := [ItH t]) rfl rfl (by repeat (first | exact .refl | apply Pk.cons | constructor)) hok.ok_vw rfl 0 rfl (by omega) rfl (fun b3 o3 ha3 hc3 => ?_)
  repeat' ((show J _ _ _ (runS _ _ _ _ (⟨_, _, _, _, _, none⟩ :: _)); (show J _ _ _ (runS _ _ _ _ (⟨_, .fieldAddr _ _ _, _, _, _, _⟩ :: _)); refine j_fieldAddr rfl rfl ?_)))
  refine j_loadv (M := [ItH t]) (v := .int .i64 (numI t0)) rfl rfl (by repeat (first | exact .refl | apply Pk.cons | constructor)) (hc3 1 _ (by show (cellsI (lsI t)[0])[1]? = _; rw [show (lsI t)[0] = t0 from by simp [hts], cells_is]; rfl)) rfl ?_
  repeat' ((show J _ _ _ (runS _ _ _ _ (⟨_, _, _, _, _, none⟩ :: _)); first | (show J _ _ _ (runS _ _ _ _ (⟨_, .load _ _, _, _, _, _⟩ :: _)); ((refine j_load rfl rfl (by repeat constructor) rfl rfl ?_))) | (show J _ _ _ (runS _ _ _ _ (⟨_, .fieldAddr _ _ _, _, _, _, _⟩ :: _)); refine j_fieldAddr rfl rfl ?_)))
  refine j_idx (α := IA) (M := [ItH t]) rfl rfl (by repeat (first | exact .refl | apply Pk.cons | constructor)) hok.ok_vw rfl 1 rfl (by omega) rfl (fun b3 o3 ha3 hc3 => ?_)
  repeat' ((show J _ _ _ (runS _ _ _ _ (⟨_, _, _, _, _, none⟩ :: _)); (show J _ _ _ (runS _ _ _ _ (⟨_, .fieldAddr _ _ _, _, _, _, _⟩ :: _)); refine j_fieldAddr rfl rfl ?_)))
  refine j_loadv (M := [ItH t]) (v := .int .i64 (numI t1)) rfl rfl (by repeat (first | exact .refl | apply Pk.cons | constructor)) (hc3 1 _ (by show (cellsI (lsI t)[1])[1]? = _; rw [show (lsI t)[1] = t1 from by simp [hts], cells_is]; rfl)) rfl ?_
  repeat' ((show J _ _ _ (runS _ _ _ _ (⟨_, _, _, _, _, none⟩ :: _)); first | (show J _ _ _ (runS _ _ _ _ (⟨_, .load _ _, _, _, _, _⟩ :: _)); ((refine j_load rfl rfl (by repeat constructor) rfl rfl ?_))) | (show J _ _ _ (runS _ _ _ _ (⟨_, .fieldAddr _ _ _, _, _, _, _⟩ :: _)); refine j_fieldAddr rfl rfl ?_)))
  refine j_idx (α := IA) (M := [ItH t]) rfl rfl (by repeat (first | exact .refl | apply Pk.cons | constructor)) hok.ok_vw rfl 2 rfl (by omega) rfl (fun b3 o3 ha3 hc3 => ?_)
  repeat' ((show J _ _ _ (runS _ _ _ _ (⟨_, _, _, _, _, none⟩ :: _)); (show J _ _ _ (runS _ _ _ _ (⟨_, .fieldAddr _ _ _, _, _, _, _⟩ :: _)); refine j_fieldAddr rfl rfl ?_)))
  refine j_loadv (M := [ItH t]) (v := .int .i64 (numI t2)) rfl rfl (by repeat (first | exact .refl | apply Pk.cons | constructor)) (hc3 1 _ (by show (cellsI (lsI t)[2])[1]? = _; rw [show (lsI t)[2] = t2 from by simp [hts], cells_is]; rfl)) rfl ?_
  repeat' ((show J _ _ _ (runS _ _ _ _ (⟨_, _, _, _, _, none⟩ :: _)); first | (show J _ _ _ (runS _ _ _ _ (⟨_, .load _ _, _, _, _, _⟩ :: _)); ((refine j_load rfl rfl (by repeat constructor) rfl rfl ?_))) | (show J _ _ _ (runS _ _ _ _ (⟨_, .fieldAddr _ _ _, _, _, _, _⟩ :: _)); refine j_fieldAddr rfl rfl ?_)))
  refine j_idx (α := IA) (M := [ItH t]) rfl rfl (by repeat (first | exact .refl | apply Pk.cons | constructor)) hok.ok_vw rfl 3 rfl (by omega) rfl (fun b3 o3 ha3 hc3 => ?_)
  repeat' ((show J _ _ _ (runS _ _ _ _ (⟨_, _, _, _, _, none⟩ :: _)); (show J _ _ _ (runS _ _ _ _ (⟨_, .fieldAddr _ _ _, _, _, _, _⟩ :: _)); refine j_fieldAddr rfl rfl ?_)))
  refine j_loadv (M := [ItH t]) (v := .int .i64 (numI t3)) rfl rfl (by repeat (first | exact .refl | apply Pk.cons | constructor)) (hc3 1 _ (by show (cellsI (lsI t)[3])[1]? = _; rw [show (lsI t)[3] = t3 from by simp [hts], cells_is]; rfl)) rfl ?_
  repeat' (first | (show J _ _ _ (runS _ _ _ _ (⟨_, _, _, _, _, none⟩ :: _)); first | (show J _ _ _ (runS _ _ _ _ (⟨_, .load _ _, _, _, _, _⟩ :: _)); ((refine j_load rfl rfl (by repeat constructor) rfl rfl ?_))) | (show J _ _ _ (runS _ _ _ _ (⟨_, .fieldAddr _ _ _, _, _, _, _⟩ :: _)); refine j_fieldAddr rfl rfl ?_) | (show J _ _ _ (runS _ _ _ _ (⟨_, .store _ _ _, _, _, _, _⟩ :: _)); ((refine j_sets rfl rfl rfl (by rfl) (by repeat constructor) (by repeat constructor) (by rfl) ?_))) | (show J _ _ _ (runS _ _ _ _ (⟨_, .build _ _, _, _, _, _⟩ :: _)); refine j_build rfl (by repeat constructor) rfl ?_) | (show J _ _ _ (runS _ _ _ _ (⟨_, .alloc _, _, _, _, _⟩ :: _)); refine j_alloc rfl (fun b => ?_))) | refine j_nil ?_ | (show J _ _ _ (Code.wp _ _ _); first | refine j_seq ?_ | refine j_region ?_) | refine j_then ?_)
  refine j_idx (α := IA) (M := [ItH t]) rfl rfl (by repeat (first | exact .refl | apply Pk.cons | constructor)) hok.ok_vw rfl 4 rfl (by omega) rfl (fun b3 o3 ha3 hc3 => ?_)
  repeat' ((show J _ _ _ (runS _ _ _ _ (⟨_, _, _, _, _, none⟩ :: _)); (show J _ _ _ (runS _ _ _ _ (⟨_, .fieldAddr _ _ _, _, _, _, _⟩ :: _)); refine j_fieldAddr rfl rfl ?_)))
  refine j_loadv (M := [ItH t]) (v := .string (strI t4)) rfl rfl (by repeat (first | exact .refl | apply Pk.cons | constructor)) (hc3 2 _ (by show (cellsI (lsI t)[4])[2]? = _; rw [show (lsI t)[4] = t4 from by simp [hts], cells_is]; rfl)) rfl ?_
  repeat' (fail)
  (refine j_call rfl rfl (bdec_spec (strI t4) hs4 []) (.refl) rfl (fun v M N h hN => ?_); obtain ⟨⟨c, e2, rfl, hcb, he2⟩, rfl⟩ := h; (try simp only [List.nil_append, List.cons_append, List.append_assoc] at hN); subst hN)
  rw [show Enc.enc c = [.int .i64 c.op, .string c.nm, .string c.oo, .int .i64 c.v.a, .int .i64 c.v.b, .int .i64 c.v.c, .int .i64 c.n] from rfl]
  repeat' (first | (show J _ _ _ (runS _ _ _ _ (⟨_, _, _, _, _, none⟩ :: _)); first | (show J _ _ _ (runS _ _ _ _ (⟨_, .move _, _, _, _, _⟩ :: _)); refine j_move rfl rfl ?_) | (show J _ _ _ (runS _ _ _ _ (⟨_, .binOp _ _ _ _ _, _, _, _, _⟩ :: _)); ((refine j_bin rfl rfl rfl rfl ?_))) | (show J _ _ _ (runS _ _ _ _ (⟨_, .assign _, _, _, _, _⟩ :: _)); refine j_assign rfl rfl ?_) | (show J _ _ _ (runS _ _ _ _ (⟨_, .store _ _ _, _, _, _, _⟩ :: _)); ((refine j_sets rfl rfl rfl (by rfl) (by repeat constructor) (by repeat constructor) (by rfl) ?_))) | (show J _ _ _ (runS _ _ _ _ (⟨_, .extract _ _, _, _, _, _⟩ :: _)); refine j_extract rfl rfl rfl ?_) | (show J _ _ _ (runS _ _ _ _ (⟨_, .alloc _, _, _, _, _⟩ :: _)); refine j_alloc rfl (fun b => ?_))) | refine j_nil ?_ | (show J _ _ _ (Code.wp _ _ _); first | refine j_seq ?_ | refine j_region ?_ | (show J _ _ _ (Code.wp _ (.cond _ _ _) _); (refine j_dec rfl (fun h => ?_) (fun h => ?_))) | refine j_skip ?_) | refine j_then ?_)
  · have he0 : e2 = 0 := by assumption
    have hop := he2 he0
    have hne : decO d = none := nof fun m hm => hop.2 (form m hm).2.2.2.2.2.2
    refine j_loads [.int .i64 c.op, .string c.nm, .string c.oo, .int .i64 c.v.a, .int .i64 c.v.b, .int .i64 c.v.c, .int .i64 c.n] rfl rfl rfl (by repeat constructor) ⟨rfl, rfl, rfl, rfl, rfl, rfl, rfl, trivial⟩ rfl ?_
    repeat' (first | (show J _ _ _ (runS _ _ _ _ (⟨_, _, _, _, _, none⟩ :: _)); first | (show J _ _ _ (runS _ _ _ _ (⟨_, .fieldAddr _ _ _, _, _, _, _⟩ :: _)); refine j_fieldAddr rfl rfl ?_) | (show J _ _ _ (runS _ _ _ _ (⟨_, .store _ _ _, _, _, _, _⟩ :: _)); ((refine j_sets rfl rfl rfl (by rfl) (by repeat constructor) (by repeat constructor) (by rfl) ?_)))) | refine j_nil ?_ | (show J _ _ _ (Code.wp _ _ _); first | refine j_seq ?_ | refine j_region ?_) | refine j_then ?_)
    (refine j_loads [.int .i64 (numI t0), .int .i64 (numI t1), .int .i64 (numI t2), .int .i64 (numI t3), .int .i64 (c).op, .string (c).nm, .string (c).oo, .int .i64 (c).v.a, .int .i64 (c).v.b, .int .i64 (c).v.c, .int .i64 (c).n] rfl rfl rfl (by repeat constructor) ⟨rfl, rfl, rfl, rfl, rfl, rfl, rfl, rfl, rfl, rfl, rfl, trivial⟩ rfl ?_)
    (refine j_call rfl rfl (oenc_spec (numI t0) (numI t1) (numI t2) (numI t3) c hb hcb hn1 hn2 hn3 []) (.refl) rfl (fun v M N h hN => ?_); obtain ⟨⟨s2, e, rfl, he⟩, rfl⟩ := h; (try simp only [List.nil_append, List.cons_append, List.append_assoc] at hN); subst hN)
    repeat' (first | (show J _ _ _ (runS _ _ _ _ (⟨_, _, _, _, _, none⟩ :: _)); first | (show J _ _ _ (runS _ _ _ _ (⟨_, .move _, _, _, _, _⟩ :: _)); refine j_move rfl rfl ?_) | (show J _ _ _ (runS _ _ _ _ (⟨_, .binOp _ _ _ _ _, _, _, _, _⟩ :: _)); (first | refine j_bin rfl rfl rfl rfl ?_ | refine j_nestr rfl rfl rfl ?_)) | (show J _ _ _ (runS _ _ _ _ (⟨_, .assign _, _, _, _, _⟩ :: _)); refine j_assign rfl rfl ?_) | (show J _ _ _ (runS _ _ _ _ (⟨_, .store _ _ _, _, _, _, _⟩ :: _)); ((refine j_sets rfl rfl rfl (by rfl) (by repeat constructor) (by repeat constructor) (by rfl) ?_))) | (show J _ _ _ (runS _ _ _ _ (⟨_, .pick _ _ _, _, _, _, _⟩ :: _)); (first | refine j_pick_t rfl rfl rfl ?_ | refine j_pick_f rfl rfl rfl ?_)) | (show J _ _ _ (runS _ _ _ _ (⟨_, .build _ _, _, _, _, _⟩ :: _)); refine j_build rfl (by repeat constructor) rfl ?_) | (show J _ _ _ (runS _ _ _ _ (⟨_, .extract _ _, _, _, _, _⟩ :: _)); refine j_extract rfl rfl rfl ?_)) | refine j_nil ?_ | (show J _ _ _ (runS _ _ _ _ (⟨_, _, _, _, _, some _⟩ :: _)); first | refine j_gno_u rfl rfl rfl rfl ?_ | refine j_gyes rfl rfl rfl ?_ | refine j_gsplit_dec rfl rfl (fun h => ?_) (fun h => ?_)) | (show J _ _ _ (Code.wp _ _ _); first | refine j_seq ?_ | refine j_region ?_ | (show J _ _ _ (Code.wp _ (.cond _ _ _) _); first | refine j_true rfl ?_ | refine j_dec rfl (fun h => ?_) (fun h => ?_)) | refine j_ret ?_ | refine j_skip ?_) | refine j_then ?_ | refine j_then_ret ?_)
    · exact j_retc2 [.int .i64 0, .int .i64 0, .int .i64 0, .int .i64 0, .int .i64 0, .string ⟨#[]⟩, .string ⟨#[]⟩, .int .i64 0, .int .i64 0, .int .i64 0, .int .i64 0] rfl rfl rfl (by repeat constructor) rfl ⟨rfl, rfl, rfl, rfl, rfl, rfl, rfl, rfl, rfl, rfl, rfl, trivial⟩ rfl (M := Lp) (by repeat (first | exact .refl | refine .drop ?_)) ⟨⟨0, 0, 0, 0, 0, ⟨#[]⟩, ⟨#[]⟩, 0, 0, 0, 0, 4, rfl, (by rw [show decO d = none from hne, if_neg (by decide)])⟩, rfl⟩
    · exact j_retc2 [.int .i64 0, .int .i64 0, .int .i64 0, .int .i64 0, .int .i64 0, .string ⟨#[]⟩, .string ⟨#[]⟩, .int .i64 0, .int .i64 0, .int .i64 0, .int .i64 0] rfl rfl rfl (by repeat constructor) rfl ⟨rfl, rfl, rfl, rfl, rfl, rfl, rfl, rfl, rfl, rfl, rfl, trivial⟩ rfl (M := Lp) (by repeat (first | exact .refl | refine .drop ?_)) ⟨⟨0, 0, 0, 0, 0, ⟨#[]⟩, ⟨#[]⟩, 0, 0, 0, 0, 4, rfl, (by rw [show decO d = none from hne, if_neg (by decide)])⟩, rfl⟩
    · have hnk : ¬ numI t0 = 4 := fun h4 => by
        have hz := congrArg Cm.op (show c = zC from ((he h4).1.1 (by omega)).2.2.1)
        have : c.op = 0 := hz
        omega
      (refine j_loads [.int .i64 (numI t0), .int .i64 (numI t1), .int .i64 (numI t2), .int .i64 (numI t3), .int .i64 (c).op, .string (c).nm, .string (c).oo, .int .i64 (c).v.a, .int .i64 (c).v.b, .int .i64 (c).v.c, .int .i64 (c).n] rfl rfl rfl (by repeat constructor) ⟨rfl, rfl, rfl, rfl, rfl, rfl, rfl, rfl, rfl, rfl, rfl, trivial⟩ rfl ?_)
      repeat' (first | (show J _ _ _ (runS _ _ _ _ (⟨_, _, _, _, _, none⟩ :: _)); first | (show J _ _ _ (runS _ _ _ _ (⟨_, .assign _, _, _, _, _⟩ :: _)); refine j_assign rfl rfl ?_) | (show J _ _ _ (runS _ _ _ _ (⟨_, .store _ _ _, _, _, _, _⟩ :: _)); ((refine j_sets rfl rfl rfl (by rfl) (by repeat constructor) (by repeat constructor) (by rfl) ?_)))) | refine j_nil ?_ | (show J _ _ _ (Code.wp _ _ _); (refine j_ret ?_)) | refine j_then ?_)
      exact j_retc2 [.int .i64 (numI t0), .int .i64 (numI t1), .int .i64 (numI t2), .int .i64 (numI t3), .int .i64 (c).op, .string (c).nm, .string (c).oo, .int .i64 (c).v.a, .int .i64 (c).v.b, .int .i64 (c).v.c, .int .i64 (c).n] rfl rfl rfl (by repeat constructor) rfl ⟨rfl, rfl, rfl, rfl, rfl, rfl, rfl, rfl, rfl, rfl, rfl, trivial⟩ rfl (M := Lp) (by repeat (first | exact .refl | refine .drop ?_)) ⟨⟨_, _, _, _, _, _, _, _, _, _, _, 0, rfl, (by rw [hne, if_neg (fun h => hnk h.2)])⟩, rfl⟩
  · (refine j_loads [.int .i64 (numI t0), .int .i64 (numI t1), .int .i64 (numI t2), .int .i64 (numI t3), .int .i64 (zC).op, .string (zC).nm, .string (zC).oo, .int .i64 (zC).v.a, .int .i64 (zC).v.b, .int .i64 (zC).v.c, .int .i64 (zC).n] rfl rfl rfl (by repeat constructor) ⟨rfl, rfl, rfl, rfl, rfl, rfl, rfl, rfl, rfl, rfl, rfl, trivial⟩ rfl ?_)
    (refine j_call rfl rfl (oenc_spec (numI t0) (numI t1) (numI t2) (numI t3) zC hb zCB hn1 hn2 hn3 []) (.refl) rfl (fun v M N h hN => ?_); obtain ⟨⟨s2, e, rfl, he⟩, rfl⟩ := h; (try simp only [List.nil_append, List.cons_append, List.append_assoc] at hN); subst hN)
    have ok : ∀ m, decO d = some m → okM ⟨numI t0, numI t1, numI t2, numI t3, zC⟩ := fun m hm => by
      obtain ⟨f1, f2, f3, f4, f5, f6, f7⟩ := form m hm
      exact ⟨f2, f3, rfl, f5, f6⟩
    repeat' (first | (show J _ _ _ (runS _ _ _ _ (⟨_, _, _, _, _, none⟩ :: _)); first | (show J _ _ _ (runS _ _ _ _ (⟨_, .move _, _, _, _, _⟩ :: _)); refine j_move rfl rfl ?_) | (show J _ _ _ (runS _ _ _ _ (⟨_, .binOp _ _ _ _ _, _, _, _, _⟩ :: _)); (first | refine j_bin rfl rfl rfl rfl ?_ | refine j_nestr rfl rfl rfl ?_)) | (show J _ _ _ (runS _ _ _ _ (⟨_, .assign _, _, _, _, _⟩ :: _)); refine j_assign rfl rfl ?_) | (show J _ _ _ (runS _ _ _ _ (⟨_, .store _ _ _, _, _, _, _⟩ :: _)); ((refine j_sets rfl rfl rfl (by rfl) (by repeat constructor) (by repeat constructor) (by rfl) ?_))) | (show J _ _ _ (runS _ _ _ _ (⟨_, .pick _ _ _, _, _, _, _⟩ :: _)); (first | refine j_pick_t rfl rfl rfl ?_ | refine j_pick_f rfl rfl rfl ?_)) | (show J _ _ _ (runS _ _ _ _ (⟨_, .build _ _, _, _, _, _⟩ :: _)); refine j_build rfl (by repeat constructor) rfl ?_) | (show J _ _ _ (runS _ _ _ _ (⟨_, .extract _ _, _, _, _, _⟩ :: _)); refine j_extract rfl rfl rfl ?_)) | refine j_nil ?_ | (show J _ _ _ (runS _ _ _ _ (⟨_, _, _, _, _, some _⟩ :: _)); first | refine j_gno_u rfl rfl rfl rfl ?_ | refine j_gyes rfl rfl rfl ?_ | refine j_gsplit_dec rfl rfl (fun h => ?_) (fun h => ?_)) | (show J _ _ _ (Code.wp _ _ _); first | refine j_seq ?_ | refine j_region ?_ | (show J _ _ _ (Code.wp _ (.cond _ _ _) _); first | refine j_true rfl ?_ | refine j_dec rfl (fun h => ?_) (fun h => ?_)) | refine j_ret ?_ | refine j_skip ?_) | refine j_then ?_ | refine j_then_ret ?_)
    · have hne : decO d = none := nof fun m hm => absurd ((he (form m hm).1).1.2 (ok m hm)) (by omega)
      exact j_retc2 [.int .i64 0, .int .i64 0, .int .i64 0, .int .i64 0, .int .i64 0, .string ⟨#[]⟩, .string ⟨#[]⟩, .int .i64 0, .int .i64 0, .int .i64 0, .int .i64 0] rfl rfl rfl (by repeat constructor) rfl ⟨rfl, rfl, rfl, rfl, rfl, rfl, rfl, rfl, rfl, rfl, rfl, trivial⟩ rfl (M := Lp) (by repeat (first | exact .refl | refine .drop ?_)) ⟨⟨0, 0, 0, 0, 0, ⟨#[]⟩, ⟨#[]⟩, 0, 0, 0, 0, 4, rfl, (by rw [show decO d = none from hne, if_neg (by decide)])⟩, rfl⟩
    · have hne : decO d = none := nof fun m hm => by
        have e1 := (he (form m hm).1).2 (by omega)
        have e2 := (decO_some hm).1
        rw [(form m hm).2.2.2.1] at e2
        have e3 : s2.data = d.data := Array.toList_inj.1 (e1.trans e2.symm)
        have e4 : s2 = d := by
          cases s2; cases d
          exact congrArg ByteArray.mk e3
        first
          | exact absurd e4 (by assumption)
          | exact absurd e4 h
      exact j_retc2 [.int .i64 0, .int .i64 0, .int .i64 0, .int .i64 0, .int .i64 0, .string ⟨#[]⟩, .string ⟨#[]⟩, .int .i64 0, .int .i64 0, .int .i64 0, .int .i64 0] rfl rfl rfl (by repeat constructor) rfl ⟨rfl, rfl, rfl, rfl, rfl, rfl, rfl, rfl, rfl, rfl, rfl, trivial⟩ rfl (M := Lp) (by repeat (first | exact .refl | refine .drop ?_)) ⟨⟨0, 0, 0, 0, 0, ⟨#[]⟩, ⟨#[]⟩, 0, 0, 0, 0, 4, rfl, (by rw [show decO d = none from hne, if_neg (by decide)])⟩, rfl⟩
    · have hsd : s2 = d := by (simpa using h)
      have hv : decO d = if (0 : Int) = 0 ∧ numI t0 = 4 then some (numI t3) else none := by
        by_cases h4 : numI t0 = 4
        · rw [if_pos ⟨rfl, h4⟩]
          have hok4 := (he h4).1.1 (by omega)
          refine decO_is hok4.2.2.2.1 hok4.2.2.2.2 ?_
          rw [← hsd]
          exact (he h4).2 (by omega)
        · rw [if_neg (fun h => h4 h.2)]
          exact nof fun m hm => h4 (form m hm).1
      (refine j_loads [.int .i64 (numI t0), .int .i64 (numI t1), .int .i64 (numI t2), .int .i64 (numI t3), .int .i64 (zC).op, .string (zC).nm, .string (zC).oo, .int .i64 (zC).v.a, .int .i64 (zC).v.b, .int .i64 (zC).v.c, .int .i64 (zC).n] rfl rfl rfl (by repeat constructor) ⟨rfl, rfl, rfl, rfl, rfl, rfl, rfl, rfl, rfl, rfl, rfl, trivial⟩ rfl ?_)
      repeat' (first | (show J _ _ _ (runS _ _ _ _ (⟨_, _, _, _, _, none⟩ :: _)); first | (show J _ _ _ (runS _ _ _ _ (⟨_, .assign _, _, _, _, _⟩ :: _)); refine j_assign rfl rfl ?_) | (show J _ _ _ (runS _ _ _ _ (⟨_, .store _ _ _, _, _, _, _⟩ :: _)); ((refine j_sets rfl rfl rfl (by rfl) (by repeat constructor) (by repeat constructor) (by rfl) ?_)))) | refine j_nil ?_ | (show J _ _ _ (Code.wp _ _ _); (refine j_ret ?_)) | refine j_then ?_)
      exact j_retc2 [.int .i64 (numI t0), .int .i64 (numI t1), .int .i64 (numI t2), .int .i64 (numI t3), .int .i64 (zC).op, .string (zC).nm, .string (zC).oo, .int .i64 (zC).v.a, .int .i64 (zC).v.b, .int .i64 (zC).v.c, .int .i64 (zC).n] rfl rfl rfl (by repeat constructor) rfl ⟨rfl, rfl, rfl, rfl, rfl, rfl, rfl, rfl, rfl, rfl, rfl, trivial⟩ rfl (M := Lp) (by repeat (first | exact .refl | refine .drop ?_)) ⟨⟨_, _, _, _, _, _, _, _, _, _, _, 0, rfl, (hv)⟩, rfl⟩
end Go.Proofs.Ytnmfpgfgjjmfhaa
end

section
set_option linter.unusedVariables false
set_option linter.unusedSimpArgs false
set_option maxRecDepth 100000
namespace Go.Proofs.Ytnmfpgfgjjmfhaa
open Go
attribute [local irreducible] Exit.then Exit.inBlock Code.wp runS bodyPost postF J runT cutQ cutR Tr Sat blk Sl Old Star Ex Pu
attribute [local irreducible] ItH ItHL
theorem lastC_take (dec : ByteArray → Option Int) (ls : List En) (i : Nat) (hi : i < ls.length) : lastC dec (ls.take (i + 1)) = (match dec ls[i].d with | some n => some n | none => lastC dec (ls.take i)) := by
  unfold lastC
  rw [List.take_add_one, List.getElem?_eq_getElem hi]
  simp only [Option.toList, List.reverse_append, List.reverse_cons, List.reverse_nil, List.nil_append, List.singleton_append, List.findSome?_cons]
  cases dec ls[i].d <;> rfl
theorem cof_spec (dec : ByteArray → Option Int) (m : Int) (a : Option Addr) (c : Nat) (ls : List En) (hdec : ∀ e ∈ ls, DecC e.d (dec e.d)) (hb : ls.length ≤ 1000000) (Lp : List HP) (hv : Sees Lp (fun w => Vw w a ls)) :
    Tr Try.prog 22 [.int .i64 m, .slice a ls.length c] Lp (fun v M => v = .int .i64 ((lastC dec ls).getD m) ∧ M = Lp) := by
  refine tr_enter Try.func22 rfl Try.ntmps22 rfl (fun F => ?_)
  repeat' (first | (show J _ _ _ (runS _ _ _ _ (⟨_, _, _, _, _, none⟩ :: _)); (show J _ _ _ (runS _ _ _ _ (⟨_, .assign _, _, _, _, _⟩ :: _)); refine j_assign rfl rfl ?_)) | refine j_nil ?_ | (show J _ _ _ (Code.wp _ _ _); first | refine j_seq ?_ | refine j_region ?_ | refine j_block ?_) | refine j_then ?_)
  refine j_loop (X := { i : Nat // i ≤ ls.length }) (fun i => [(0, .int .i64 ((lastC dec (ls.take i.1)).getD m)), (1, .slice a ls.length c), (5, .int .i64 (i.1 : Nat))]) (fun i => Lp ++ F) (fun i => ls.length - i.1) ⟨0, Nat.zero_le _⟩ ⟨rfl, rfl, rfl, trivial⟩ .refl (fun i => ?_)
  obtain ⟨i, hi⟩ := i
  dsimp only
  repeat' (first | (show J _ _ _ (runS _ _ _ _ (⟨_, _, _, _, _, none⟩ :: _)); first | (show J _ _ _ (runS _ _ _ _ (⟨_, .move _, _, _, _, _⟩ :: _)); refine j_move rfl rfl ?_) | (show J _ _ _ (runS _ _ _ _ (⟨_, .binOp _ _ _ _ _, _, _, _, _⟩ :: _)); ((refine j_bin rfl rfl rfl rfl ?_))) | (show J _ _ _ (runS _ _ _ _ (⟨_, .assign _, _, _, _, _⟩ :: _)); refine j_assign rfl rfl ?_) | (show J _ _ _ (runS _ _ _ _ (⟨_, .call ⟨.builtin .len, _, _⟩, _, _, _, _⟩ :: _)); ((refine j_len rfl rfl ?_)))) | refine j_nil ?_ | (show J _ _ _ (Code.wp _ _ _); first | refine j_seq ?_ | refine j_region ?_ | refine j_block ?_ | (show J _ _ _ (Code.wp _ (.cond _ _ _) _); (refine j_dec rfl (fun h => ?_) (fun h => ?_))) | refine j_ret ?_ | refine j_skip ?_ | refine j_exit ?_) | refine j_then ?_ | refine j_then_exit ?_ | refine j_inb_here ?_)
  · have hi2 : i < ls.length := by omega
    have hlt := lastC_take dec ls i hi2
    refine j_idx (α := En) (M := Lp) rfl rfl (by repeat ((exact .refl))) hv rfl i rfl hi2 rfl (fun b3 o3 ha3 hc3 => ?_)
    repeat' ((show J _ _ _ (runS _ _ _ _ (⟨_, _, _, _, _, none⟩ :: _)); (show J _ _ _ (runS _ _ _ _ (⟨_, .fieldAddr _ _ _, _, _, _, _⟩ :: _)); refine j_fieldAddr rfl rfl ?_)))
    refine j_loadv (M := Lp) (v := .string ls[i].d) rfl rfl (by repeat ((exact .refl))) (hc3 1 _ rfl) rfl ?_
    (refine j_call rfl rfl (hdec ls[i] (List.getElem_mem hi2) []) (.refl) rfl (fun v M N h hN => ?_); obtain ⟨⟨k, id, sq, nn, op, nm, tn, v0, v1, v2, cn, e, rfl, hdc⟩, rfl⟩ := h; (try simp only [List.nil_append, List.cons_append, List.append_assoc] at hN); subst hN)
    repeat' (first | (show J _ _ _ (runS _ _ _ _ (⟨_, _, _, _, _, none⟩ :: _)); first | (show J _ _ _ (runS _ _ _ _ (⟨_, .move _, _, _, _, _⟩ :: _)); refine j_move rfl rfl ?_) | (show J _ _ _ (runS _ _ _ _ (⟨_, .load _ _, _, _, _, _⟩ :: _)); ((refine j_load rfl rfl (by repeat constructor) rfl rfl ?_))) | (show J _ _ _ (runS _ _ _ _ (⟨_, .fieldAddr _ _ _, _, _, _, _⟩ :: _)); refine j_fieldAddr rfl rfl ?_) | (show J _ _ _ (runS _ _ _ _ (⟨_, .binOp _ _ _ _ _, _, _, _, _⟩ :: _)); (first | refine j_add rfl rfl (by omega) rfl ?_ | refine j_bin rfl rfl rfl rfl ?_)) | (show J _ _ _ (runS _ _ _ _ (⟨_, .assign _, _, _, _, _⟩ :: _)); refine j_assign rfl rfl ?_) | (show J _ _ _ (runS _ _ _ _ (⟨_, .store _ _ _, _, _, _, _⟩ :: _)); ((refine j_sets rfl rfl rfl (by rfl) (by repeat constructor) (by repeat constructor) (by rfl) ?_))) | (show J _ _ _ (runS _ _ _ _ (⟨_, .pick _ _ _, _, _, _, _⟩ :: _)); (first | refine j_pick_t rfl rfl rfl ?_ | refine j_pick_f rfl rfl rfl ?_)) | (show J _ _ _ (runS _ _ _ _ (⟨_, .extract _ _, _, _, _, _⟩ :: _)); refine j_extract rfl rfl rfl ?_) | (show J _ _ _ (runS _ _ _ _ (⟨_, .alloc _, _, _, _, _⟩ :: _)); refine j_alloc rfl (fun b => ?_))) | refine j_nil ?_ | (show J _ _ _ (runS _ _ _ _ (⟨_, _, _, _, _, some _⟩ :: _)); first | refine j_gno_u rfl rfl rfl rfl ?_ | refine j_gyes rfl rfl rfl ?_ | refine j_gsplit_dec rfl rfl (fun h => ?_) (fun h => ?_)) | (show J _ _ _ (Code.wp _ _ _); first | refine j_seq ?_ | refine j_region ?_ | (show J _ _ _ (Code.wp _ (.cond _ _ _) _); first | refine j_false rfl ?_ | refine j_dec rfl (fun h => ?_) (fun h => ?_)) | refine j_skip ?_) | refine j_then ?_ | refine j_inb ?_)
    · have hn : (lastC dec (ls.take (i + 1))).getD m = nn := by rw [hlt, hdc, if_pos ⟨by omega, by omega⟩]; rfl
      exact j_round ⟨i + 1, by omega⟩ (by dsimp only; omega) ⟨by dsimp only; rw [hn]; rfl, rfl, rfl, trivial⟩ (by repeat (first | exact .refl | refine .drop ?_))
    all_goals
      have hn : lastC dec (ls.take (i + 1)) = lastC dec (ls.take i) := by rw [hlt, hdc, if_neg (by omega)]
      exact j_round ⟨i + 1, by omega⟩ (by dsimp only; omega) ⟨by dsimp only; rw [hn]; rfl, rfl, rfl, trivial⟩ (by repeat (first | exact .refl | refine .drop ?_))
  · have he : i = ls.length := by omega
    subst he
    rw [List.take_length]
    exact j_ret1 (M := Lp) rfl rfl (by repeat ((exact .refl))) ⟨rfl, rfl⟩
theorem confOf_spec (W : World) (m : Int) (a : Option Addr) (c : Nat) (ls : List En) (hv : Vw W a ls) (hsz : ∀ e ∈ ls, e.d.size ≤ 9223372036854775807) : Tr Try.prog 4 [.int .i64 m, .slice a ls.length c] [Old W] (yes W) := by
  refine tr_enter Try.func4 rfl Try.ntmps4 rfl (fun F => ?_)
  repeat' (first | (show J _ _ _ (runS _ _ _ _ (⟨_, _, _, _, _, none⟩ :: _)); (show J _ _ _ (runS _ _ _ _ (⟨_, .assign _, _, _, _, _⟩ :: _)); refine j_assign rfl rfl ?_)) | refine j_nil ?_ | (show J _ _ _ (Code.wp _ _ _); first | refine j_seq ?_ | refine j_region ?_) | refine j_then ?_)
  (refine j_call rfl rfl (cawake_spec []) (.refl) rfl (fun v M N h hN => ?_); obtain ⟨rfl, rfl⟩ := h; (try simp only [List.nil_append, List.cons_append, List.append_assoc] at hN); subst hN)
  repeat' (first | (show J _ _ _ (runS _ _ _ _ (⟨_, _, _, _, _, none⟩ :: _)); first | (show J _ _ _ (runS _ _ _ _ (⟨_, .move _, _, _, _, _⟩ :: _)); refine j_move rfl rfl ?_) | (show J _ _ _ (runS _ _ _ _ (⟨_, .binOp _ _ _ _ _, _, _, _, _⟩ :: _)); ((refine j_bin rfl rfl rfl rfl ?_))) | (show J _ _ _ (runS _ _ _ _ (⟨_, .assign _, _, _, _, _⟩ :: _)); refine j_assign rfl rfl ?_) | (show J _ _ _ (runS _ _ _ _ (⟨_, .pick _ _ _, _, _, _, _⟩ :: _)); ((refine j_pick_t rfl rfl rfl ?_))) | (show J _ _ _ (runS _ _ _ _ (⟨_, .unOp _ _ _, _, _, _, _⟩ :: _)); ((refine j_not_b rfl rfl ?_))) | (show J _ _ _ (runS _ _ _ _ (⟨_, .call ⟨.builtin .len, _, _⟩, _, _, _, _⟩ :: _)); ((refine j_len rfl rfl ?_)))) | refine j_nil ?_ | (show J _ _ _ (runS _ _ _ _ (⟨_, _, _, _, _, some _⟩ :: _)); first | refine j_gno_u rfl rfl rfl rfl ?_ | refine j_gyes rfl rfl rfl ?_ | refine j_gsplit_dec rfl rfl (fun h => ?_) (fun h => ?_)) | (show J _ _ _ (Code.wp _ _ _); first | refine j_seq ?_ | refine j_region ?_ | (show J _ _ _ (Code.wp _ (.cond _ _ _) _); (refine j_false rfl ?_)) | refine j_ret ?_ | refine j_skip ?_) | refine j_then ?_)
  · exact j_ret1 (M := [Old W]) rfl rfl (by repeat ((exact .refl))) ⟨rfl, rfl⟩
  have hlen : ls.length ≤ 1000000 := by omega
  (refine j_call rfl rfl (of_spec decO m a c ls (fun e _ => wdecS e.d) hlen [Old W] (sees_old hv)) (.refl) rfl (fun v M N h hN => ?_); obtain ⟨rfl, rfl⟩ := h; (try simp only [List.nil_append, List.cons_append, List.append_assoc] at hN); subst hN)
  repeat' (first | (show J _ _ _ (runS _ _ _ _ (⟨_, _, _, _, _, none⟩ :: _)); (show J _ _ _ (runS _ _ _ _ (⟨_, .move _, _, _, _, _⟩ :: _)); refine j_move rfl rfl ?_)) | (show J _ _ _ (runS _ _ _ _ (⟨_, _, _, _, _, some _⟩ :: _)); (refine j_gyes rfl rfl rfl ?_)))
  (refine j_call rfl rfl (cof_spec decO m a c ls (fun e he => wdecC e.d (hsz e he)) hlen [Old W] (sees_old hv)) (.refl) rfl (fun v M N h hN => ?_); obtain ⟨rfl, rfl⟩ := h; (try simp only [List.nil_append, List.cons_append, List.append_assoc] at hN); subst hN)
  repeat' (first | (show J _ _ _ (runS _ _ _ _ (⟨_, _, _, _, _, none⟩ :: _)); first | (show J _ _ _ (runS _ _ _ _ (⟨_, .binOp _ _ _ _ _, _, _, _, _⟩ :: _)); ((refine j_bin rfl rfl rfl rfl ?_))) | (show J _ _ _ (runS _ _ _ _ (⟨_, .assign _, _, _, _, _⟩ :: _)); refine j_assign rfl rfl ?_) | (show J _ _ _ (runS _ _ _ _ (⟨_, .pick _ _ _, _, _, _, _⟩ :: _)); ((refine j_pick_f rfl rfl rfl ?_)))) | refine j_nil ?_ | (show J _ _ _ (runS _ _ _ _ (⟨_, _, _, _, _, some _⟩ :: _)); (refine j_gyes rfl rfl rfl ?_)) | (show J _ _ _ (Code.wp _ _ _); (refine j_ret ?_)) | refine j_then ?_)
  exact j_ret1 (M := [Old W]) rfl rfl (by repeat ((exact .refl))) ⟨by simp, rfl⟩
end Go.Proofs.Ytnmfpgfgjjmfhaa
end

