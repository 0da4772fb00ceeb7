/- Bytes, read: take, count, size. -/
import Derived.Test.YtnmfpgfgjjmfhaaWi6
set_option linter.unusedVariables false
set_option linter.unusedSimpArgs false
set_option maxRecDepth 100000
namespace Go.Proofs.Ytnmfpgfgjjmfhaa
open Go
attribute [local irreducible] Exit.then Exit.inBlock Code.wp runS bodyPost postF J runT cutQ cutR Tr Sat blk Sl Old Star Ex Pu

/-- what a fault of form is -/
def flt : Value := .iface 80 (.agg #[.int .i64 4])
def Fol (a : Option Addr) (ls : List UInt8) (a' : Option Addr) (ls' : List UInt8) : Prop := ∀ w, Vw w a ls → Vw w a' ls'
theorem Fol.trans {a b c : Option Addr} {l m r : List UInt8} (h : Fol a l b m) (k : Fol b m c r) : Fol a l c r := fun w hw => k w (h w hw)
theorem Fol.sees {M : List HP} {a a' : Option Addr} {l l' : List UInt8} (h : Fol a l a' l') (hs : Sees M (fun w => Vw w a l)) : Sees M (fun w => Vw w a' l') := fun w hw => h w (hs w hw)
def rdB (rb : Nat) (a : Option Addr) (c : Nat) (ls : List UInt8) (left : Int) : HP := blk rb 99 [.slice a ls.length c, .int .i64 left]
def rdX (rb : Nat) (Lp : List HP) : Value → List HP → Prop := fun v M => v = flt ∧ ∃ a c len left, M = blk rb 99 [.slice a len c, .int .i64 left] :: Lp
theorem j_rdx {n : Nat} {fm : Fm} {L Lp F : List HP} {fn : Func} {R : Value → List HP → Prop} {p : Prop} {rb : Nat} {a : Option Addr} {len c : Nat} {left : Int} (hL : Pk L (blk rb 99 [.slice a len c, .int .i64 left] :: (Lp ++ F))) (hp : p) :
    J n fm L (bodyPost Try.prog fn (postX R (fun v M => p ∧ rdX rb Lp v M) F) (.panic [{ v := flt, recovered := false }])) :=
  j_panicked (M := blk rb 99 [.slice a len c, .int .i64 left] :: Lp) hL ⟨hp, rfl, _, _, _, _, rfl⟩

theorem rtake_spec (rb : Nat) (a : Option Addr) (c : Nat) (ls : List UInt8) (left : Int) (n : Nat) (hc : ls.length ≤ c) (Lp : List HP) :
    TrX Try.prog 87 [.pointer (some ⟨rb, 0, none⟩), .int .i64 (n : Nat)] (rdB rb a c ls left :: Lp)
      (fun v M => n ≤ ls.length ∧ ∃ a1 c1 a2 c2, v = .slice a1 n c1 ∧ n ≤ c1 ∧ Fol a ls a1 (ls.take n) ∧ Fol a ls a2 (ls.drop n) ∧ (ls.drop n).length ≤ c2 ∧ M = rdB rb a2 c2 (ls.drop n) left :: Lp)
      (fun v M => ls.length < n ∧ rdX rb Lp v M) := by
  refine tr_enterX Try.func87 rfl Try.ntmps87 rfl (fun F => ?_)
  unfold rdB
  repeat' (first | (show J _ _ _ (runS _ _ _ _ (⟨_, _, _, _, _, none⟩ :: _)); first | (show J _ _ _ (runS _ _ _ _ (⟨_, .move _, _, _, _, _⟩ :: _)); refine j_move rfl rfl ?_) | (show J _ _ _ (runS _ _ _ _ (⟨_, .load _ _, _, _, _, _⟩ :: _)); ((refine j_load rfl rfl (by repeat constructor) rfl rfl ?_))) | (show J _ _ _ (runS _ _ _ _ (⟨_, .fieldAddr _ _ _, _, _, _, _⟩ :: _)); refine j_fieldAddr rfl rfl ?_) | (show J _ _ _ (runS _ _ _ _ (⟨_, .nilCheck _, _, _, _, _⟩ :: _)); ((refine j_nilCheck rfl rfl ?_))) | (show J _ _ _ (runS _ _ _ _ (⟨_, .binOp _ _ _ _ _, _, _, _, _⟩ :: _)); ((refine j_bin rfl rfl rfl rfl ?_))) | (show J _ _ _ (runS _ _ _ _ (⟨_, .assign _, _, _, _, _⟩ :: _)); refine j_assign rfl rfl ?_) | (show J _ _ _ (runS _ _ _ _ (⟨_, .call ⟨.builtin .len, _, _⟩, _, _, _, _⟩ :: _)); ((refine j_len rfl rfl ?_))) | (show J _ _ _ (runS _ _ _ _ (⟨_, .build _ _, _, _, _, _⟩ :: _)); refine j_build rfl (by repeat constructor) rfl ?_)) | refine j_nil ?_ | (show J _ _ _ (Code.wp _ _ _); first | refine j_seq ?_ | refine j_region ?_ | (show J _ _ _ (Code.wp _ (.cond _ _ _) _); (refine j_dec rfl (fun h => ?_) (fun h => ?_))) | refine j_skip ?_) | refine j_then ?_ | (show J _ _ _ (runS _ _ _ _ (⟨_, .makeInterface _ _, _, _, _, _⟩ :: _)); refine j_mkIface rfl rfl rfl ?_) | (show J _ _ _ (runS _ _ _ _ (⟨_, .panic _, _, _, _, _⟩ :: _)); refine j_panicI rfl ?_) | refine j_then_panic ?_)
  · exact j_panicked (M := blk rb 99 [.slice a ls.length c, .int .i64 left] :: Lp) .refl ⟨by omega, rfl, _, _, _, _, rfl⟩
  have hn : n ≤ ls.length := by omega
  refine j_slice 0 n c rfl (.inl ⟨rfl, rfl⟩) (.inr ⟨_, _, _, rfl, rfl, rfl, by omega⟩) (.inl ⟨rfl, rfl⟩) rfl ?_
  repeat' (first | (show J _ _ _ (runS _ _ _ _ (⟨_, _, _, _, _, none⟩ :: _)); first | (show J _ _ _ (runS _ _ _ _ (⟨_, .move _, _, _, _, _⟩ :: _)); refine j_move rfl rfl ?_) | (show J _ _ _ (runS _ _ _ _ (⟨_, .load _ _, _, _, _, _⟩ :: _)); ((refine j_load rfl rfl (by repeat constructor) rfl rfl ?_))) | (show J _ _ _ (runS _ _ _ _ (⟨_, .fieldAddr _ _ _, _, _, _, _⟩ :: _)); refine j_fieldAddr rfl rfl ?_) | (show J _ _ _ (runS _ _ _ _ (⟨_, .nilCheck _, _, _, _, _⟩ :: _)); ((refine j_nilCheck rfl rfl ?_))) | (show J _ _ _ (runS _ _ _ _ (⟨_, .assign _, _, _, _, _⟩ :: _)); refine j_assign rfl rfl ?_)) | refine j_nil ?_ | (show J _ _ _ (Code.wp _ _ _); first | refine j_seq ?_ | refine j_region ?_) | refine j_then ?_)
  refine j_slice n ls.length c rfl (.inl ⟨rfl, rfl⟩) (.inl ⟨rfl, rfl, rfl⟩) (.inr ⟨_, _, _, rfl, rfl, rfl, hn⟩) rfl ?_
  repeat' (first | (show J _ _ _ (runS _ _ _ _ (⟨_, _, _, _, _, none⟩ :: _)); first | (show J _ _ _ (runS _ _ _ _ (⟨_, .move _, _, _, _, _⟩ :: _)); refine j_move rfl rfl ?_) | (show J _ _ _ (runS _ _ _ _ (⟨_, .fieldAddr _ _ _, _, _, _, _⟩ :: _)); refine j_fieldAddr rfl rfl ?_) | (show J _ _ _ (runS _ _ _ _ (⟨_, .nilCheck _, _, _, _, _⟩ :: _)); ((refine j_nilCheck rfl rfl ?_))) | (show J _ _ _ (runS _ _ _ _ (⟨_, .assign _, _, _, _, _⟩ :: _)); refine j_assign rfl rfl ?_) | (show J _ _ _ (runS _ _ _ _ (⟨_, .store _ _ _, _, _, _, _⟩ :: _)); ((refine j_set rfl rfl rfl (by rfl) (by repeat constructor) (by repeat constructor) ?_)))) | refine j_nil ?_ | (show J _ _ _ (Code.wp _ _ _); first | refine j_seq ?_ | refine j_region ?_ | refine j_ret ?_) | refine j_then ?_ | refine j_retX ?_)
  refine j_ret1 (M := blk rb 99 [.slice (offA a n c 1) (ls.length - n) (c - n), .int .i64 left] :: Lp) rfl rfl .refl ⟨hn, offA a 0 c 1, c, offA a n c 1, c - n, rfl, by omega, fun w hw => ?_, fun w hw => hw.off n c hc hw.spot, by rw [List.length_drop]; omega, by rw [List.length_drop]⟩
  have := (hw.off 0 c hc hw.spot).take n
  rw [List.drop_zero] at this
  exact this

def beN (l : List UInt8) : Nat := l.foldl (fun n c => n * 256 + c.toNat) 0
theorem beN_snoc (l : List UInt8) (x : UInt8) : beN (l ++ [x]) = beN l * 256 + x.toNat := by simp [beN]
theorem beN_lt (l : List UInt8) : beN l < 256 ^ l.length := by
  rw [← List.reverse_reverse l]
  generalize l.reverse = r
  induction r with
  | nil => simp [beN]
  | cons x r ih =>
    rw [List.reverse_cons, beN_snoc, List.length_append, List.length_singleton, Nat.pow_succ]
    have := x.toNat_lt
    omega
theorem or_u64 (m c : Nat) (hm : m < 256 ^ 7) (hc : c < 256) : IntKind.u64.wrap ((BitVec.ofInt IntKind.u64.bits (IntKind.u64.wrap ((m : Int) * 2 ^ (min (8 : Int).toNat IntKind.u64.bits))) ||| BitVec.ofInt IntKind.u64.bits (IntKind.u64.wrap (c : Int))).toNat : Int) = ((m * 256 + c : Nat) : Int) := by
  have e0 : (m : Int) * 2 ^ (min (8 : Int).toNat IntKind.u64.bits) = ((m * 256 : Nat) : Int) := by
    have : (2 : Int) ^ (min (8 : Int).toNat IntKind.u64.bits) = 256 := by decide
    rw [this]; omega
  rw [e0, u64n (n := m * 256) (by omega), u64n (n := c) (by omega)]
  have e1 : (BitVec.ofInt IntKind.u64.bits ((m * 256 : Nat) : Int) ||| BitVec.ofInt IntKind.u64.bits (c : Int)).toNat = m * 256 + c := by
    rw [BitVec.toNat_or]
    show (BitVec.ofInt 64 ((m * 256 : Nat) : Int)).toNat ||| (BitVec.ofInt 64 (c : Int)).toNat = _
    have a1 : (BitVec.ofInt 64 ((m * 256 : Nat) : Int)).toNat = m * 256 := by
      simp only [BitVec.toNat_ofInt]; omega
    have a2 : (BitVec.ofInt 64 (c : Int)).toNat = c := by
      simp only [BitVec.toNat_ofInt]; omega
    rw [a1, a2, Nat.mul_comm, show 256 = 2 ^ 8 from rfl, ← Nat.two_pow_add_eq_or_of_lt (by omega)]
  rw [e1, u64n (by omega)]
def cntP : List UInt8 → Option (Nat × List UInt8)
  | [] => none
  | k :: r => if 8 < k.toNat ∨ r.length < k.toNat ∨ (r.take k.toNat).head? = some 0 then none else some (beN (r.take k.toNat), r.drop k.toNat)

theorem rcount_spec (rb : Nat) (a : Option Addr) (c : Nat) (ls : List UInt8) (left : Int) (hc : ls.length ≤ c) (Lp : List HP) (hv : Sees Lp (fun w => Vw w a ls)) :
    TrX Try.prog 88 [.pointer (some ⟨rb, 0, none⟩)] (rdB rb a c ls left :: Lp)
      (fun v M => ∃ m r, cntP ls = some (m, r) ∧ m < 18446744073709551616 ∧ v = .int .u64 (m : Nat) ∧ ∃ a2 c2, Fol a ls a2 r ∧ r.length ≤ c2 ∧ M = rdB rb a2 c2 r left :: Lp)
      (fun v M => cntP ls = none ∧ rdX rb Lp v M) := by
  refine tr_enterX Try.func88 rfl Try.ntmps88 rfl (fun F => ?_)
  repeat' (first | (show J _ _ _ (runS _ _ _ _ (⟨_, _, _, _, _, none⟩ :: _)); first | (show J _ _ _ (runS _ _ _ _ (⟨_, .move _, _, _, _, _⟩ :: _)); refine j_move rfl rfl ?_) | (show J _ _ _ (runS _ _ _ _ (⟨_, .assign _, _, _, _, _⟩ :: _)); refine j_assign rfl rfl ?_)) | refine j_nil ?_ | (show J _ _ _ (Code.wp _ _ _); first | refine j_seq ?_ | refine j_region ?_) | refine j_then ?_)
  (refine j_callX rfl rfl (rtake_spec rb a c ls left 1 hc Lp) (.refl) rfl (fun v M N h hN => ?_) (fun v M N h hN => ?_); (obtain ⟨h1, a1, c1, a2, c2, rfl, hc1, hf1, hf2, hc2, rfl⟩ := h; (try simp only [List.nil_append, List.cons_append, List.append_assoc] at hN); subst hN); rotate_left; (obtain ⟨h1, rfl, a', c', len', left', rfl⟩ := h; (try simp only [List.nil_append, List.cons_append, List.append_assoc] at hN); subst hN); rotate_right)
  · have hv1 : Sees Lp (fun w => Vw w a1 (ls.take 1)) := hf1.sees hv
    match ls, h1 with
    | k :: r, _ =>
    refine j_idx (α := UInt8) (M := Lp) rfl rfl (by repeat (first | exact .refl | refine .drop ?_)) hv1 (by simp) 0 rfl (by simp) rfl (fun b3 o3 ha3 hc3 => ?_)
    refine j_loadv (M := Lp) (v := .int .u8 (k.toNat : Nat)) rfl rfl (by repeat (first | exact .refl | refine .drop ?_)) (hc3 0 _ rfl) rfl ?_
    have hk8 := k.toNat_lt
    have hk := wrap64_id (x := (k.toNat : Int)) (by omega)
    repeat' (first | (show J _ _ _ (runS _ _ _ _ (⟨_, _, _, _, _, none⟩ :: _)); first | (show J _ _ _ (runS _ _ _ _ (⟨_, .move _, _, _, _, _⟩ :: _)); refine j_move rfl rfl ?_) | (show J _ _ _ (runS _ _ _ _ (⟨_, .binOp _ _ _ _ _, _, _, _, _⟩ :: _)); ((refine j_bin rfl rfl rfl rfl ?_))) | (show J _ _ _ (runS _ _ _ _ (⟨_, .assign _, _, _, _, _⟩ :: _)); refine j_assign rfl rfl ?_) | (show J _ _ _ (runS _ _ _ _ (⟨_, .build _ _, _, _, _, _⟩ :: _)); refine j_build rfl (by repeat constructor) rfl ?_) | (show J _ _ _ (runS _ _ _ _ (⟨_, .convert _ _ _, _, _, _, _⟩ :: _)); refine j_conv rfl rfl ?_)) | refine j_nil ?_ | (show J _ _ _ (Code.wp _ _ _); first | refine j_seq ?_ | refine j_region ?_ | (show J _ _ _ (Code.wp _ (.cond _ _ _) _); (refine j_dec rfl (fun h => ?_) (fun h => ?_))) | refine j_skip ?_) | refine j_then ?_ | (show J _ _ _ (runS _ _ _ _ (⟨_, .makeInterface _ _, _, _, _, _⟩ :: _)); refine j_mkIface rfl rfl rfl ?_) | (show J _ _ _ (runS _ _ _ _ (⟨_, .panic _, _, _, _, _⟩ :: _)); refine j_panicI rfl ?_) | refine j_then_panic ?_)
    · rw [hk] at h
      refine j_panicked (M := blk rb 99 [.slice a2 (List.drop 1 (k :: r)).length c2, .int .i64 left] :: Lp) .refl ⟨?_, rfl, _, _, _, _, rfl⟩
      rw [cntP, if_pos (.inl (by omega))]
    rw [hk] at h ⊢
    (refine j_callX rfl rfl (rtake_spec rb a2 c2 r left k.toNat hc2 Lp) (.refl) rfl (fun v M N h hN => ?_) (fun v M N h hN => ?_); (obtain ⟨h2, a3, c3, a4, c4, rfl, hc3', hf3, hf4, hc4, rfl⟩ := h; (try simp only [List.nil_append, List.cons_append, List.append_assoc] at hN); subst hN); rotate_left; (obtain ⟨h2, rfl, a', c', len', left', rfl⟩ := h; (try simp only [List.nil_append, List.cons_append, List.append_assoc] at hN); subst hN); rotate_right)
    · have hv3 : Sees Lp (fun w => Vw w a3 (r.take k.toNat)) := (hf2.trans hf3).sees hv
      have hl3 : (r.take k.toNat).length = k.toNat := by rw [List.length_take]; omega
      refine j_assign rfl rfl (j_nil (j_then (j_seq ?_)))
      refine j_cutR (X := { q : Unit // (r.take k.toNat).head? ≠ some 0 }) (fun q => [(4, .slice a3 k.toNat c3)]) (fun q => rdB rb a4 c4 (r.drop k.toNat) left :: (Lp ++ F)) ?_ (fun q => ?_)
      · repeat' (first | (show J _ _ _ (runS _ _ _ _ (⟨_, _, _, _, _, none⟩ :: _)); first | (show J _ _ _ (runS _ _ _ _ (⟨_, .move _, _, _, _, _⟩ :: _)); refine j_move rfl rfl ?_) | (show J _ _ _ (runS _ _ _ _ (⟨_, .binOp _ _ _ _ _, _, _, _, _⟩ :: _)); ((refine j_bin rfl rfl rfl rfl ?_))) | (show J _ _ _ (runS _ _ _ _ (⟨_, .pick _ _ _, _, _, _, _⟩ :: _)); ((refine j_pick_f rfl rfl rfl ?_)))) | refine j_nil ?_ | (show J _ _ _ (runS _ _ _ _ (⟨_, _, _, _, _, some _⟩ :: _)); first | refine j_gno_u rfl rfl rfl rfl ?_ | refine j_gyes rfl rfl rfl ?_ | refine j_gsplit_dec rfl rfl (fun h => ?_) (fun h => ?_)) | (show J _ _ _ (Code.wp _ _ _); first | refine j_seq ?_ | refine j_region ?_ | (show J _ _ _ (Code.wp _ (.cond _ _ _) _); (refine j_false rfl ?_)) | refine j_skip ?_) | refine j_then ?_)
        · obtain ⟨x, rr, hr⟩ : ∃ x rr, r.take k.toNat = x :: rr := by
            cases hr : r.take k.toNat with
            | nil => rw [hr] at hl3; simp at hl3; omega
            | cons x rr => exact ⟨x, rr, rfl⟩
          rw [hr] at hv3 hl3
          refine j_idx (α := UInt8) (M := Lp) rfl rfl (by repeat (first | exact .refl | refine .drop ?_)) hv3 (by omega) 0 rfl (by simp) rfl (fun b3 o3 ha3 hc3 => ?_)
          refine j_gyes rfl rfl rfl ?_
          refine j_loadv (M := Lp) (v := .int .u8 (x.toNat : Nat)) rfl rfl (by repeat (first | exact .refl | refine .drop ?_)) (hc3 0 _ rfl) rfl ?_
          repeat' (first | (show J _ _ _ (runS _ _ _ _ (⟨_, _, _, _, _, none⟩ :: _)); first | (show J _ _ _ (runS _ _ _ _ (⟨_, .binOp _ _ _ _ _, _, _, _, _⟩ :: _)); ((refine j_bin rfl rfl rfl rfl ?_))) | (show J _ _ _ (runS _ _ _ _ (⟨_, .pick _ _ _, _, _, _, _⟩ :: _)); ((refine j_pick_t rfl rfl rfl ?_))) | (show J _ _ _ (runS _ _ _ _ (⟨_, .build _ _, _, _, _, _⟩ :: _)); refine j_build rfl (by repeat constructor) rfl ?_)) | refine j_nil ?_ | (show J _ _ _ (runS _ _ _ _ (⟨_, _, _, _, _, some _⟩ :: _)); (refine j_gyes rfl rfl rfl ?_)) | (show J _ _ _ (Code.wp _ _ _); first | refine j_region ?_ | (show J _ _ _ (Code.wp _ (.cond _ _ _) _); (refine j_dec rfl (fun h => ?_) (fun h => ?_))) | refine j_skip ?_) | refine j_then ?_ | (show J _ _ _ (runS _ _ _ _ (⟨_, .makeInterface _ _, _, _, _, _⟩ :: _)); refine j_mkIface rfl rfl rfl ?_) | (show J _ _ _ (runS _ _ _ _ (⟨_, .panic _, _, _, _, _⟩ :: _)); refine j_panicI rfl ?_) | refine j_then_panic ?_ | refine j_cutRpanic ?_)
          · refine j_panicked (M := blk rb 99 [.slice a4 (r.drop k.toNat).length c4, .int .i64 left] :: Lp) .refl ⟨?_, rfl, _, _, _, _, rfl⟩
            have : x.toNat = 0 := by omega
            rw [cntP, if_pos (.inr (.inr (by rw [hr]; simp; exact UInt8.toNat_inj.1 this)))]
          · refine j_cutRend (Y := { q : Unit // (r.take k.toNat).head? ≠ some 0 }) ⟨(), ?_⟩ ⟨rfl, trivial⟩ .refl
            rw [hr]
            intro h0; simp at h0; subst h0; simp at *
        · refine j_cutRend (Y := { q : Unit // (r.take k.toNat).head? ≠ some 0 }) ⟨(), ?_⟩ ⟨rfl, trivial⟩ .refl
          rw [show k.toNat = 0 from by omega]
          simp
      obtain ⟨_, hz⟩ := q
      repeat' (first | (show J _ _ _ (runS _ _ _ _ (⟨_, _, _, _, _, none⟩ :: _)); first | (show J _ _ _ (runS _ _ _ _ (⟨_, .move _, _, _, _, _⟩ :: _)); refine j_move rfl rfl ?_) | (show J _ _ _ (runS _ _ _ _ (⟨_, .assign _, _, _, _, _⟩ :: _)); refine j_assign rfl rfl ?_) | (show J _ _ _ (runS _ _ _ _ (⟨_, .call ⟨.builtin .len, _, _⟩, _, _, _, _⟩ :: _)); ((refine j_len rfl rfl ?_)))) | refine j_nil ?_ | (show J _ _ _ (Code.wp _ _ _); first | refine j_seq ?_ | refine j_region ?_ | refine j_block ?_) | refine j_then ?_)
      obtain ⟨l, hl⟩ : ∃ l, l = r.take k.toNat := ⟨_, rfl⟩
      rw [← hl] at hv3 hl3
      refine j_loop (X := { q : Nat × Nat // q.1 ≤ k.toNat ∧ q.2 = beN (l.take q.1) }) (fun q => [(5, .int .u64 (q.1.2 : Nat)), (30, .slice a3 k.toNat c3), (31, .int .i64 (k.toNat : Nat)), (32, .int .i64 (q.1.1 : Nat))]) (fun q => rdB rb a4 c4 (r.drop k.toNat) left :: (Lp ++ F)) (fun q => k.toNat - q.1.1) ⟨(0, 0), by omega, rfl⟩ ⟨rfl, rfl, rfl, rfl, trivial⟩ .refl (fun q => ?_)
      obtain ⟨⟨i, m⟩, hi, hm⟩ := q
      dsimp only at hi hm ⊢
      repeat' (first | (show J _ _ _ (runS _ _ _ _ (⟨_, _, _, _, _, none⟩ :: _)); first | (show J _ _ _ (runS _ _ _ _ (⟨_, .move _, _, _, _, _⟩ :: _)); refine j_move rfl rfl ?_) | (show J _ _ _ (runS _ _ _ _ (⟨_, .binOp _ _ _ _ _, _, _, _, _⟩ :: _)); ((refine j_bin rfl rfl rfl rfl ?_))) | (show J _ _ _ (runS _ _ _ _ (⟨_, .assign _, _, _, _, _⟩ :: _)); refine j_assign rfl rfl ?_)) | refine j_nil ?_ | (show J _ _ _ (Code.wp _ _ _); first | refine j_seq ?_ | refine j_region ?_ | refine j_block ?_ | (show J _ _ _ (Code.wp _ (.cond _ _ _) _); (refine j_dec rfl (fun h => ?_) (fun h => ?_))) | refine j_ret ?_ | refine j_skip ?_ | refine j_exit ?_) | refine j_then ?_ | refine j_then_exit ?_ | refine j_inb_here ?_ | refine j_retX ?_)
      · have hi2 : i < l.length := by omega
        refine j_idx (α := UInt8) (M := Lp) rfl rfl (by repeat (first | exact .refl | refine .drop ?_)) hv3 (by omega) i rfl hi2 rfl (fun b3 o3 ha3 hc3 => ?_)
        refine j_loadv (M := Lp) (v := .int .u8 (l[i].toNat : Nat)) rfl rfl (by repeat (first | exact .refl | refine .drop ?_)) (hc3 0 _ rfl) rfl ?_
        repeat' (first | (show J _ _ _ (runS _ _ _ _ (⟨_, _, _, _, _, none⟩ :: _)); first | (show J _ _ _ (runS _ _ _ _ (⟨_, .move _, _, _, _, _⟩ :: _)); refine j_move rfl rfl ?_) | (show J _ _ _ (runS _ _ _ _ (⟨_, .assign _, _, _, _, _⟩ :: _)); refine j_assign rfl rfl ?_)) | refine j_nil ?_ | (show J _ _ _ (Code.wp _ _ _); (refine j_region ?_)) | refine j_then ?_)
        refine j_shl rfl rfl (by omega) rfl ?_
        repeat' (first | (show J _ _ _ (runS _ _ _ _ (⟨_, _, _, _, _, none⟩ :: _)); first | (show J _ _ _ (runS _ _ _ _ (⟨_, .move _, _, _, _, _⟩ :: _)); refine j_move rfl rfl ?_) | (show J _ _ _ (runS _ _ _ _ (⟨_, .binOp _ _ _ _ _, _, _, _, _⟩ :: _)); (first | refine j_add rfl rfl (by omega) rfl ?_ | refine j_bin rfl rfl rfl rfl ?_)) | (show J _ _ _ (runS _ _ _ _ (⟨_, .assign _, _, _, _, _⟩ :: _)); refine j_assign rfl rfl ?_) | (show J _ _ _ (runS _ _ _ _ (⟨_, .convert _ _ _, _, _, _, _⟩ :: _)); refine j_conv rfl rfl ?_)) | refine j_nil ?_ | (show J _ _ _ (Code.wp _ _ _); (refine j_region ?_)) | refine j_then ?_ | refine j_inb ?_)
        have hm2 : m < 256 ^ 7 := by
          rw [hm]
          refine Nat.lt_of_lt_of_le (beN_lt _) (Nat.pow_le_pow_right (by omega) ?_)
          rw [List.length_take]; omega
        rw [or_u64 m l[i].toNat (by omega) l[i].toNat_lt]
        refine j_round ⟨(i + 1, m * 256 + l[i].toNat), by dsimp only; omega, ?_⟩ (by dsimp only; omega) ⟨rfl, rfl, rfl, rfl, trivial⟩ .refl
        dsimp only
        rw [List.take_add_one, List.getElem?_eq_getElem hi2]
        show _ = beN (l.take i ++ [l[i]])
        rw [beN_snoc, hm]
      · have hik : i = k.toNat := by omega
        subst hik
        rw [show l.take k.toNat = l from by rw [List.take_of_length_le (by omega)]] at hm
        refine j_ret1 (M := blk rb 99 [.slice a4 (r.drop k.toNat).length c4, .int .i64 left] :: Lp) rfl rfl .refl ⟨m, r.drop k.toNat, ?_, ?_, rfl, a4, c4, hf2.trans hf4, hc4, rfl⟩
        · rw [cntP, if_neg, hm, hl]
          rintro (h5 | h5 | h5)
          · omega
          · omega
          · exact hz h5
        · rw [hm]
          refine Nat.lt_of_lt_of_le (beN_lt l) ?_
          rw [hl3]
          exact Nat.le_trans (Nat.pow_le_pow_right (by omega) (show k.toNat ≤ 8 by omega)) (by decide)
    · repeat' ((refine j_then_panic ?_))
      refine j_panicked (M := blk rb 99 [.slice a' len' c', .int .i64 left'] :: Lp) .refl ⟨?_, rfl, _, _, _, _, rfl⟩
      rw [cntP, if_pos (.inr (.inl h2))]
  · repeat' ((refine j_then_panic ?_))
    refine j_panicked (M := blk rb 99 [.slice a' len' c', .int .i64 left'] :: Lp) .refl ⟨?_, rfl, _, _, _, _, rfl⟩
    match ls, h1 with
    | [], _ => rfl

def sizeP (most : Nat) (ls : List UInt8) : Option (Nat × List UInt8) := match cntP ls with
  | some (n, r) => if n ≤ most then some (n, r) else none
  | none => none
theorem rsize_spec (rb : Nat) (a : Option Addr) (c : Nat) (ls : List UInt8) (left : Int) (most : Nat) (hmost : most < 9223372036854775808) (hc : ls.length ≤ c) (Lp : List HP) (hv : Sees Lp (fun w => Vw w a ls)) :
    TrX Try.prog 89 [.pointer (some ⟨rb, 0, none⟩), .int .i64 (most : Nat)] (rdB rb a c ls left :: Lp)
      (fun v M => ∃ m r, sizeP most ls = some (m, r) ∧ v = .int .i64 (m : Nat) ∧ ∃ a2 c2, Fol a ls a2 r ∧ r.length ≤ c2 ∧ M = rdB rb a2 c2 r left :: Lp)
      (fun v M => sizeP most ls = none ∧ rdX rb Lp v M) := by
  refine tr_enterX Try.func89 rfl Try.ntmps89 rfl (fun F => ?_)
  repeat' (first | (show J _ _ _ (runS _ _ _ _ (⟨_, _, _, _, _, none⟩ :: _)); first | (show J _ _ _ (runS _ _ _ _ (⟨_, .move _, _, _, _, _⟩ :: _)); refine j_move rfl rfl ?_) | (show J _ _ _ (runS _ _ _ _ (⟨_, .assign _, _, _, _, _⟩ :: _)); refine j_assign rfl rfl ?_)) | refine j_nil ?_ | (show J _ _ _ (Code.wp _ _ _); first | refine j_seq ?_ | refine j_region ?_) | refine j_then ?_)
  (refine j_callX rfl rfl (rcount_spec rb a c ls left hc Lp hv) (.refl) rfl (fun v M N h hN => ?_) (fun v M N h hN => ?_); (obtain ⟨m, r, h1, hm, rfl, a2, c2, hf, hc2, rfl⟩ := h; (try simp only [List.nil_append, List.cons_append, List.append_assoc] at hN); subst hN); rotate_left; (obtain ⟨h1, rfl, a', c', len', left', rfl⟩ := h; (try simp only [List.nil_append, List.cons_append, List.append_assoc] at hN); subst hN); rotate_right)
  · have hw := u64n (n := most) (by omega)
    repeat' (first | (show J _ _ _ (runS _ _ _ _ (⟨_, _, _, _, _, none⟩ :: _)); first | (show J _ _ _ (runS _ _ _ _ (⟨_, .move _, _, _, _, _⟩ :: _)); refine j_move rfl rfl ?_) | (show J _ _ _ (runS _ _ _ _ (⟨_, .binOp _ _ _ _ _, _, _, _, _⟩ :: _)); ((refine j_bin rfl rfl rfl rfl ?_))) | (show J _ _ _ (runS _ _ _ _ (⟨_, .assign _, _, _, _, _⟩ :: _)); refine j_assign rfl rfl ?_) | (show J _ _ _ (runS _ _ _ _ (⟨_, .build _ _, _, _, _, _⟩ :: _)); refine j_build rfl (by repeat constructor) rfl ?_) | (show J _ _ _ (runS _ _ _ _ (⟨_, .convert _ _ _, _, _, _, _⟩ :: _)); refine j_conv rfl rfl ?_)) | refine j_nil ?_ | (show J _ _ _ (Code.wp _ _ _); first | refine j_seq ?_ | refine j_region ?_ | (show J _ _ _ (Code.wp _ (.cond _ _ _) _); (refine j_dec rfl (fun h => ?_) (fun h => ?_))) | refine j_ret ?_ | refine j_skip ?_) | refine j_then ?_ | (show J _ _ _ (runS _ _ _ _ (⟨_, .makeInterface _ _, _, _, _, _⟩ :: _)); refine j_mkIface rfl rfl rfl ?_) | (show J _ _ _ (runS _ _ _ _ (⟨_, .panic _, _, _, _, _⟩ :: _)); refine j_panicI rfl ?_) | refine j_then_panic ?_ | refine j_retX ?_)
    · rw [hw] at h
      refine j_panicked (M := blk rb 99 [.slice a2 r.length c2, .int .i64 left] :: Lp) .refl ⟨?_, rfl, _, _, _, _, rfl⟩
      rw [sizeP, h1]
      show (if m ≤ most then some (m, r) else none) = none
      rw [if_neg (by omega)]
    · rw [hw] at h
      rw [wrap64_id (x := (m : Int)) (by omega)]
      refine j_ret1 (M := rdB rb a2 c2 r left :: Lp) rfl rfl .refl ⟨m, r, ?_, rfl, a2, c2, hf, hc2, rfl⟩
      rw [sizeP, h1]
      show (if m ≤ most then some (m, r) else none) = some (m, r)
      rw [if_pos (by omega)]
  · repeat' ((refine j_then_panic ?_))
    refine j_panicked (M := blk rb 99 [.slice a' len' c', .int .i64 left'] :: Lp) .refl ⟨?_, rfl, _, _, _, _, rfl⟩
    rw [sizeP, h1]
end Go.Proofs.Ytnmfpgfgjjmfhaa
