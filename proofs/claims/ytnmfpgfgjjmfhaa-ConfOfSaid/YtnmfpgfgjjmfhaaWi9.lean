/- Items, read: the walk. -/
import Derived.Test.YtnmfpgfgjjmfhaaWi8
set_option linter.unusedVariables false
set_option linter.unusedSimpArgs false
set_option maxRecDepth 100000
namespace Go.Proofs.Ytnmfpgfgjjmfhaa
open Go
attribute [local irreducible] Exit.then Exit.inBlock Code.wp runS bodyPost postF J runT cutQ cutR Tr Sat blk Sl Old Star Ex Pu
attribute [local irreducible] ItH ItHL
def contP (ts : List IA) (o : Option (List Va × Nat × List UInt8)) : Option (List Va × Nat × List UInt8) := match o with
  | none => none
  | some (vs, l, r) => some (plIL ts ++ vs, l, r)
theorem contP_step {f : Nat → List UInt8 → Option (Va × Nat × List UInt8)} {ts : List IA} {t : IA} {n left l' : Nat} {ls r' : List UInt8} (h : f left ls = some (plI t, l', r')) : contP ts (itemsP f (n + 1) left ls) = contP (ts ++ [t]) (itemsP f n l' r') := by
  simp only [itemsP, h]
  cases itemsP f n l' r' with
  | none => simp [contP]
  | some q =>
    obtain ⟨vs, l, r⟩ := q
    simp [contP, plIL_app, plIL]
theorem contP_none {f : Nat → List UInt8 → Option (Va × Nat × List UInt8)} {ts : List IA} {n left : Nat} {ls : List UInt8} (h : f left ls = none) : contP ts (itemsP f (n + 1) left ls) = none := by
  simp [itemsP, h, contP]

theorem ritem_spec : ∀ (d deep : Nat), d + deep = 13 → ∀ (left : Nat), left ≤ 4096 → ∀ (rb : Nat) (a : Option Addr) (c : Nat) (ls : List UInt8), ls.length ≤ c → ∀ (Lp : List HP), Sees Lp (fun w => Vw w a ls) →
    TrX Try.prog 64 [.pointer (some ⟨rb, 0, none⟩), .int .i64 (deep : Nat)] (rdB rb a c ls (left : Nat) :: Lp)
      (fun v M => ∃ (t : IA) (left' : Nat) (r : List UInt8), itemP d left ls = some (plI t, left', r) ∧ v = .agg (cellsI t).toArray ∧ left' ≤ left ∧ ∃ a2 c2, Fol a ls a2 r ∧ r.length ≤ c2 ∧ M = rdB rb a2 c2 r (left' : Nat) :: ItH t :: Lp)
      (fun v M => itemP d left ls = none ∧ rdX rb Lp v M) := by
  intro d
  induction d with
  | zero =>
    intro deep hd left hl rb a c ls hc Lp hv
    refine tr_enterX Try.func64 rfl Try.ntmps64 rfl (fun F => ?_)
    unfold rdB
    repeat' (first | (show J _ _ _ (runS _ _ _ _ (⟨_, _, _, _, _, none⟩ :: _)); first | (show J _ _ _ (runS _ _ _ _ (⟨_, .move _, _, _, _, _⟩ :: _)); refine j_move rfl rfl ?_) | (show J _ _ _ (runS _ _ _ _ (⟨_, .load _ _, _, _, _, _⟩ :: _)); ((refine j_load rfl rfl (by repeat constructor) rfl rfl ?_))) | (show J _ _ _ (runS _ _ _ _ (⟨_, .fieldAddr _ _ _, _, _, _, _⟩ :: _)); refine j_fieldAddr rfl rfl ?_) | (show J _ _ _ (runS _ _ _ _ (⟨_, .nilCheck _, _, _, _, _⟩ :: _)); ((refine j_nilCheck rfl rfl ?_))) | (show J _ _ _ (runS _ _ _ _ (⟨_, .binOp _ _ _ _ _, _, _, _, _⟩ :: _)); (first | refine j_sub_ rfl rfl (by omega) rfl ?_ | refine j_bin rfl rfl rfl rfl ?_)) | (show J _ _ _ (runS _ _ _ _ (⟨_, .store _ _ _, _, _, _, _⟩ :: _)); ((refine j_set rfl rfl rfl (by rfl) (by repeat constructor) (by repeat constructor) ?_))) | (show J _ _ _ (runS _ _ _ _ (⟨_, .pick _ _ _, _, _, _, _⟩ :: _)); (first | refine j_pick_t rfl rfl rfl ?_ | refine j_pick_f rfl rfl rfl ?_)) | (show J _ _ _ (runS _ _ _ _ (⟨_, .build _ _, _, _, _, _⟩ :: _)); refine j_build rfl (by repeat constructor) rfl ?_) | (show J _ _ _ (runS _ _ _ _ (⟨_, .alloc _, _, _, _, _⟩ :: _)); refine j_alloc rfl (fun b => ?_))) | refine j_nil ?_ | (show J _ _ _ (runS _ _ _ _ (⟨_, _, _, _, _, some _⟩ :: _)); first | refine j_gno_u rfl rfl rfl rfl ?_ | refine j_gyes rfl rfl rfl ?_ | refine j_gsplit_dec rfl rfl (fun h => ?_) (fun h => ?_)) | (show J _ _ _ (Code.wp _ _ _); first | refine j_seq ?_ | refine j_region ?_ | (show J _ _ _ (Code.wp _ (.cond _ _ _) _); first | refine j_true rfl ?_ | refine j_dec rfl (fun h => ?_) (fun h => ?_)) | refine j_skip ?_) | refine j_then ?_ | (show J _ _ _ (runS _ _ _ _ (⟨_, .makeInterface _ _, _, _, _, _⟩ :: _)); refine j_mkIface rfl rfl rfl ?_) | (show J _ _ _ (runS _ _ _ _ (⟨_, .panic _, _, _, _, _⟩ :: _)); refine j_panicI rfl ?_) | refine j_then_panic ?_)
    · refine j_rdx (fn := _) (by repeat (first | exact .refl | apply Pk.cons | refine .drop ?_ | constructor)) ?_
      rfl
    · refine j_rdx (fn := _) (by repeat (first | exact .refl | apply Pk.cons | refine .drop ?_ | constructor)) ?_
      rfl
    · exfalso; omega
  | succ d ih =>
    intro deep hd left hl rb a c ls hc Lp hv
    refine tr_enterX Try.func64 rfl Try.ntmps64 rfl (fun F => ?_)
    unfold rdB
    repeat' (first | (show J _ _ _ (runS _ _ _ _ (⟨_, _, _, _, _, none⟩ :: _)); first | (show J _ _ _ (runS _ _ _ _ (⟨_, .move _, _, _, _, _⟩ :: _)); refine j_move rfl rfl ?_) | (show J _ _ _ (runS _ _ _ _ (⟨_, .load _ _, _, _, _, _⟩ :: _)); ((refine j_load rfl rfl (by repeat constructor) rfl rfl ?_))) | (show J _ _ _ (runS _ _ _ _ (⟨_, .fieldAddr _ _ _, _, _, _, _⟩ :: _)); refine j_fieldAddr rfl rfl ?_) | (show J _ _ _ (runS _ _ _ _ (⟨_, .nilCheck _, _, _, _, _⟩ :: _)); ((refine j_nilCheck rfl rfl ?_))) | (show J _ _ _ (runS _ _ _ _ (⟨_, .binOp _ _ _ _ _, _, _, _, _⟩ :: _)); (first | refine j_sub_ rfl rfl (by omega) rfl ?_ | refine j_bin rfl rfl rfl rfl ?_)) | (show J _ _ _ (runS _ _ _ _ (⟨_, .store _ _ _, _, _, _, _⟩ :: _)); ((refine j_set rfl rfl rfl (by rfl) (by repeat constructor) (by repeat constructor) ?_))) | (show J _ _ _ (runS _ _ _ _ (⟨_, .pick _ _ _, _, _, _, _⟩ :: _)); (first | refine j_pick_t rfl rfl rfl ?_ | refine j_pick_f rfl rfl rfl ?_)) | (show J _ _ _ (runS _ _ _ _ (⟨_, .build _ _, _, _, _, _⟩ :: _)); refine j_build rfl (by repeat constructor) rfl ?_) | (show J _ _ _ (runS _ _ _ _ (⟨_, .alloc _, _, _, _, _⟩ :: _)); refine j_alloc rfl (fun b => ?_))) | refine j_nil ?_ | (show J _ _ _ (runS _ _ _ _ (⟨_, _, _, _, _, some _⟩ :: _)); first | refine j_gno_u rfl rfl rfl rfl ?_ | refine j_gyes rfl rfl rfl ?_ | refine j_gsplit_dec rfl rfl (fun h => ?_) (fun h => ?_)) | (show J _ _ _ (Code.wp _ _ _); first | refine j_seq ?_ | refine j_region ?_ | (show J _ _ _ (Code.wp _ (.cond _ _ _) _); first | refine j_true rfl ?_ | refine j_dec rfl (fun h => ?_) (fun h => ?_)) | refine j_skip ?_) | refine j_then ?_ | (show J _ _ _ (runS _ _ _ _ (⟨_, .makeInterface _ _, _, _, _, _⟩ :: _)); refine j_mkIface rfl rfl rfl ?_) | (show J _ _ _ (runS _ _ _ _ (⟨_, .panic _, _, _, _, _⟩ :: _)); refine j_panicI rfl ?_) | refine j_then_panic ?_)
    · refine j_rdx (fn := _) (by repeat (first | exact .refl | apply Pk.cons | refine .drop ?_ | constructor)) ?_
      rw [show left = 0 from by omega]; rfl
    · exfalso; omega
    obtain ⟨b4, hb4⟩ : ∃ b', b' = b := ⟨_, rfl⟩
    subst hb4
    match left, (show 0 < left by omega), hl with
    | left + 1, _, hl =>
    rw [show ((left + 1 : Nat) : Int) - 1 = (left : Int) from by omega]
    have hv' : Sees (blk b4 64 [.int .i64 0, .int .i64 0, .string ⟨#[]⟩, .slice none 0 0] :: Lp) (fun w => Vw w a ls) := hv.cons
    (refine j_callX rfl rfl (rtake_spec rb a c ls left 1 hc (blk b4 64 [.int .i64 0, .int .i64 0, .string ⟨#[]⟩, .slice none 0 0] :: Lp)) ((by repeat (first | exact .refl | apply Pk.cons | constructor))) rfl (fun v M N h hN => ?_) (fun v M N h hN => ?_); (obtain ⟨h1, a1, c1, a2, c2, rfl, hc1, hf1, hf2, hc2, rfl⟩ := h; (try simp only [List.nil_append, List.cons_append, List.append_assoc] at hN); subst hN); rotate_left; (obtain ⟨h1, rfl, a', c', len', left', rfl⟩ := h; (try simp only [List.nil_append, List.cons_append, List.append_assoc] at hN); subst hN); rotate_right)
    rotate_left
    · repeat' ((refine j_then_panic ?_))
      refine j_rdx (fn := _) (by repeat (first | exact .refl | apply Pk.cons | refine .drop ?_ | constructor)) ?_
      rw [show ls = [] from List.length_eq_zero_iff.1 (by omega)]; rfl
    match ls, h1 with
    | k :: r, _ =>
    refine j_idx (α := UInt8) (M := Lp) rfl rfl (by repeat (first | exact .refl | refine .drop ?_)) (hf1.sees hv) (by simp) 0 rfl (by simp) rfl (fun b3 o3 ha3 hc3 => ?_)
    refine j_loadv (M := Lp) (v := .int .u8 (k.toNat : Nat)) rfl rfl (by repeat (first | exact .refl | refine .drop ?_)) (hc3 0 _ rfl) rfl ?_
    have hk8 := k.toNat_lt
    repeat' (first | (show J _ _ _ (runS _ _ _ _ (⟨_, _, _, _, _, none⟩ :: _)); first | (show J _ _ _ (runS _ _ _ _ (⟨_, .move _, _, _, _, _⟩ :: _)); refine j_move rfl rfl ?_) | (show J _ _ _ (runS _ _ _ _ (⟨_, .binOp _ _ _ _ _, _, _, _, _⟩ :: _)); ((refine j_bin rfl rfl rfl rfl ?_))) | (show J _ _ _ (runS _ _ _ _ (⟨_, .assign _, _, _, _, _⟩ :: _)); refine j_assign rfl rfl ?_) | (show J _ _ _ (runS _ _ _ _ (⟨_, .store _ _ _, _, _, _, _⟩ :: _)); ((refine j_sets rfl rfl rfl (by rfl) (by repeat constructor) (by repeat constructor) (by rfl) ?_))) | (show J _ _ _ (runS _ _ _ _ (⟨_, .build _ _, _, _, _, _⟩ :: _)); refine j_build rfl (by repeat constructor) rfl ?_) | (show J _ _ _ (runS _ _ _ _ (⟨_, .alloc _, _, _, _, _⟩ :: _)); refine j_alloc rfl (fun b => ?_))) | refine j_nil ?_ | (show J _ _ _ (Code.wp _ _ _); first | refine j_seq ?_ | refine j_region ?_ | refine j_block ?_ | (show J _ _ _ (Code.wp _ (.cond _ _ _) _); (refine j_dec rfl (fun h => ?_) (fun h => ?_))) | refine j_skip ?_) | refine j_then ?_ | refine j_inb ?_ | (show J _ _ _ (runS _ _ _ _ (⟨_, .makeInterface _ _, _, _, _, _⟩ :: _)); refine j_mkIface rfl rfl rfl ?_) | (show J _ _ _ (runS _ _ _ _ (⟨_, .panic _, _, _, _, _⟩ :: _)); refine j_panicI rfl ?_))
    · obtain rfl : k = 1 := UInt8.toNat_inj.1 (show k.toNat = (1 : UInt8).toNat from by have : (1 : UInt8).toNat = 1 := rfl; omega)
      (refine j_callX rfl rfl (rcount_spec rb a2 c2 r left hc2 (blk b4 64 [.int .i64 0, .int .i64 0, .string ⟨#[]⟩, .slice none 0 0] :: Lp) (hf2.sees hv')) ((by repeat ((exact .refl)))) rfl (fun v M N h hN => ?_) (fun v M N h hN => ?_); (obtain ⟨m, r2, h2, hm, rfl, a3, c3, hf3, hc3', rfl⟩ := h; (try simp only [List.nil_append, List.cons_append, List.append_assoc] at hN); subst hN); rotate_left; (obtain ⟨h2, rfl, a', c', len', left', rfl⟩ := h; (try simp only [List.nil_append, List.cons_append, List.append_assoc] at hN); subst hN); rotate_right)
      · unfold rdB
        repeat' (first | (show J _ _ _ (runS _ _ _ _ (⟨_, _, _, _, _, none⟩ :: _)); first | (show J _ _ _ (runS _ _ _ _ (⟨_, .move _, _, _, _, _⟩ :: _)); refine j_move rfl rfl ?_) | (show J _ _ _ (runS _ _ _ _ (⟨_, .binOp _ _ _ _ _, _, _, _, _⟩ :: _)); (first | refine j_bin rfl rfl rfl rfl ?_ | refine j_shr rfl rfl (by omega) rfl ?_)) | (show J _ _ _ (runS _ _ _ _ (⟨_, .assign _, _, _, _, _⟩ :: _)); refine j_assign rfl rfl ?_) | (show J _ _ _ (runS _ _ _ _ (⟨_, .convert _ _ _, _, _, _, _⟩ :: _)); refine j_conv rfl rfl ?_)) | refine j_nil ?_ | (show J _ _ _ (Code.wp _ _ _); first | refine j_seq ?_ | refine j_region ?_) | refine j_then ?_)
        refine j_neg rfl rfl ?_
        repeat' (first | (show J _ _ _ (runS _ _ _ _ (⟨_, _, _, _, _, none⟩ :: _)); first | (show J _ _ _ (runS _ _ _ _ (⟨_, .binOp _ _ _ _ _, _, _, _, _⟩ :: _)); ((refine j_bin rfl rfl rfl rfl ?_))) | (show J _ _ _ (runS _ _ _ _ (⟨_, .store _ _ _, _, _, _, _⟩ :: _)); ((refine j_sets rfl rfl rfl (by rfl) (by repeat constructor) (by repeat constructor) (by rfl) ?_))) | (show J _ _ _ (runS _ _ _ _ (⟨_, .build _ _, _, _, _, _⟩ :: _)); refine j_build rfl (by repeat constructor) rfl ?_)) | refine j_nil ?_ | (show J _ _ _ (Code.wp _ _ _); (refine j_ret ?_)) | refine j_then ?_ | refine j_then_ret ?_ | refine j_inb_ret ?_ | refine j_retX ?_)
        rw [unzig_is m hm]
        repeat' (fail)
        refine j_it0 (t := .num (unzig m) none 0) (fun w S => by simp only [OwnI]) ?_
        refine j_retc [.int .i64 1, .int .i64 (unzig m), .string ⟨#[]⟩, .slice none 0 0] rfl rfl rfl (by repeat constructor) rfl ⟨rfl, rfl, rfl, rfl, trivial⟩ (M := rdB rb a3 c3 r2 (left : Nat) :: ItH (.num (unzig m) none 0) :: Lp) (by repeat (first | exact .refl | apply Pk.cons | refine .drop ?_ | constructor)) ⟨.num (unzig m) none 0, left, r2, ?_, rfl, by omega, a3, c3, hf2.trans hf3, hc3', rfl⟩
        rw [itemP, if_pos rfl, h2, plI]
      · repeat' (first | refine j_then_panic ?_ | refine j_inb_panic ?_)
        refine j_rdx (fn := _) (by repeat (first | exact .refl | apply Pk.cons | refine .drop ?_ | constructor)) ?_
        rw [itemP, if_pos rfl, h2]
    · obtain rfl : k = 2 := UInt8.toNat_inj.1 (show k.toNat = (2 : UInt8).toNat from by have : (2 : UInt8).toNat = 2 := rfl; omega)
      (refine j_callX rfl rfl (rsize_spec rb a2 c2 r left 4096 (by decide) hc2 (blk b4 64 [.int .i64 0, .int .i64 0, .string ⟨#[]⟩, .slice none 0 0] :: Lp) (hf2.sees hv')) ((by repeat ((exact .refl)))) rfl (fun v M N h hN => ?_) (fun v M N h hN => ?_); (obtain ⟨m, r2, h2, rfl, a3, c3, hf3, hc3', rfl⟩ := h; (try simp only [List.nil_append, List.cons_append, List.append_assoc] at hN); subst hN); rotate_left; (obtain ⟨h2, rfl, a', c', len', left', rfl⟩ := h; (try simp only [List.nil_append, List.cons_append, List.append_assoc] at hN); subst hN); rotate_right)
      · (refine j_callX rfl rfl (rtake_spec rb a3 c3 r2 left m hc3' (blk b4 64 [.int .i64 0, .int .i64 0, .string ⟨#[]⟩, .slice none 0 0] :: Lp)) ((by repeat ((exact .refl)))) rfl (fun v M N h hN => ?_) (fun v M N h hN => ?_); (obtain ⟨h4, a4, c4, a5, c5, rfl, hc4, hf4, hf5, hc5, rfl⟩ := h; (try simp only [List.nil_append, List.cons_append, List.append_assoc] at hN); subst hN); rotate_left; (obtain ⟨h4, rfl, a', c', len', left', rfl⟩ := h; (try simp only [List.nil_append, List.cons_append, List.append_assoc] at hN); subst hN); rotate_right)
        · refine j_bytesV (M := Lp) rfl (by repeat (first | exact .refl | refine .drop ?_)) (((hf2.trans hf3).trans hf4).sees hv) (by rw [List.length_take]; omega) rfl ?_
          unfold rdB
          repeat' (first | (show J _ _ _ (runS _ _ _ _ (⟨_, _, _, _, _, none⟩ :: _)); first | (show J _ _ _ (runS _ _ _ _ (⟨_, .store _ _ _, _, _, _, _⟩ :: _)); ((refine j_sets rfl rfl rfl (by rfl) (by repeat constructor) (by repeat constructor) (by rfl) ?_))) | (show J _ _ _ (runS _ _ _ _ (⟨_, .build _ _, _, _, _, _⟩ :: _)); refine j_build rfl (by repeat constructor) rfl ?_)) | refine j_nil ?_ | (show J _ _ _ (Code.wp _ _ _); (refine j_ret ?_)) | refine j_then ?_ | refine j_then_ret ?_ | refine j_inb_ret ?_ | refine j_retX ?_)
          refine j_it0 (t := .txt ⟨(r2.take m).toArray⟩ none 0) (fun w S => by simp only [OwnI]) ?_
          refine j_retc [.int .i64 2, .int .i64 0, .string ⟨(r2.take m).toArray⟩, .slice none 0 0] rfl rfl rfl (by repeat constructor) rfl ⟨rfl, rfl, rfl, rfl, trivial⟩ (M := rdB rb a5 c5 (r2.drop m) (left : Nat) :: ItH (.txt ⟨(r2.take m).toArray⟩ none 0) :: Lp) (by repeat (first | exact .refl | apply Pk.cons | refine .drop ?_ | constructor)) ⟨.txt ⟨(r2.take m).toArray⟩ none 0, left, r2.drop m, ?_, rfl, by omega, a5, c5, (hf2.trans hf3).trans hf5, hc5, rfl⟩
          rw [itemP, if_neg (by decide), if_pos rfl, h2]
          show (if m ≤ r2.length then _ else _) = _
          rw [if_pos h4, plI]
        · repeat' (first | refine j_then_panic ?_ | refine j_inb_panic ?_)
          refine j_rdx (fn := _) (by repeat (first | exact .refl | apply Pk.cons | refine .drop ?_ | constructor)) ?_
          rw [itemP, if_neg (by decide), if_pos rfl, h2]
          show (if m ≤ r2.length then _ else _) = _
          rw [if_neg (by omega)]
      · repeat' (first | refine j_then_panic ?_ | refine j_inb_panic ?_)
        refine j_rdx (fn := _) (by repeat (first | exact .refl | apply Pk.cons | refine .drop ?_ | constructor)) ?_
        rw [itemP, if_neg (by decide), if_pos rfl, h2]
    · obtain rfl : k = 3 := UInt8.toNat_inj.1 (show k.toNat = (3 : UInt8).toNat from by have : (3 : UInt8).toNat = 3 := rfl; omega)
      (refine j_callX rfl rfl (rsize_spec rb a2 c2 r left 4096 (by decide) hc2 (blk b 64 [.int .i64 3, .int .i64 0, .string ⟨#[]⟩, .slice none 0 0] :: blk b4 64 [.int .i64 0, .int .i64 0, .string ⟨#[]⟩, .slice none 0 0] :: Lp) (hf2.sees hv').cons) ((by repeat (first | exact .refl | apply Pk.cons | constructor))) rfl (fun v M N h hN => ?_) (fun v M N h hN => ?_); (obtain ⟨m, r2, h2, rfl, a3, c3, hf3, hc3', rfl⟩ := h; (try simp only [List.nil_append, List.cons_append, List.append_assoc] at hN); subst hN); rotate_left; (obtain ⟨h2, rfl, a', c', len', left', rfl⟩ := h; (try simp only [List.nil_append, List.cons_append, List.append_assoc] at hN); subst hN); rotate_right)
      · have hm : m ≤ 4096 := by
          unfold sizeP at h2
          split at h2
          · split at h2
            · simp at h2; omega
            · cases h2
          · cases h2
        refine j_sl0 (α := IA) 64 none (j_itL0 ?_)
        repeat' (first | (show J _ _ _ (runS _ _ _ _ (⟨_, _, _, _, _, none⟩ :: _)); (show J _ _ _ (runS _ _ _ _ (⟨_, .move _, _, _, _, _⟩ :: _)); refine j_move rfl rfl ?_)) | refine j_nil ?_ | (show J _ _ _ (Code.wp _ _ _); (refine j_block ?_)) | refine j_then ?_)
        refine j_loop (X := { q : Nat × Nat × List UInt8 × List IA × Option Addr × Nat × Option Addr × Nat // (q.1 ≤ m ∧ q.2.2.2.1.length = q.1) ∧ q.2.1 ≤ left ∧ Fol a (3 :: r) q.2.2.2.2.2.2.1 q.2.2.1 ∧ q.2.2.1.length ≤ q.2.2.2.2.2.2.2 ∧ itemsP (itemP d) m left r2 = contP q.2.2.2.1 (itemsP (itemP d) (m - q.1) q.2.1 q.2.2.1) }) (fun q => [(0, .pointer (some ⟨rb, 0, none⟩)), (1, .int .i64 (deep : Nat)), (4, .pointer (some ⟨b4, 0, none⟩)), (6, .pointer (some ⟨b, 0, none⟩)), (54, .int .i64 (m : Nat)), (55, .int .i64 (q.1.1 : Nat))]) (fun q => blk b 64 [.int .i64 3, .int .i64 0, .string ⟨#[]⟩, .slice q.1.2.2.2.2.1 q.1.2.2.2.1.length q.1.2.2.2.2.2.1] :: Sl 64 q.1.2.2.2.2.1 q.1.2.2.2.2.2.1 q.1.2.2.2.1 :: ItHL q.1.2.2.2.1 :: rdB rb q.1.2.2.2.2.2.2.1 q.1.2.2.2.2.2.2.2 q.1.2.2.1 (q.1.2.1 : Nat) :: blk b4 64 [.int .i64 0, .int .i64 0, .string ⟨#[]⟩, .slice none 0 0] :: (Lp ++ F)) (fun q => m - q.1.1) ⟨(0, left, r2, [], none, 0, a3, c3), ⟨by omega, rfl⟩, Nat.le_refl _, hf2.trans hf3, hc3', by
            show _ = contP [] (itemsP (itemP d) m left r2)
            cases itemsP (itemP d) m left r2 with
            | none => rfl
            | some q => rfl⟩ ⟨rfl, rfl, rfl, rfl, rfl, rfl, trivial⟩ (by repeat (first | exact .refl | apply Pk.cons | constructor)) (fun q => ?_)
        obtain ⟨⟨i, lq, rq, ts, a7, c7, aq, cq⟩, ⟨hi, hts⟩, hlq, hfq, hcq, hco⟩ := q
        dsimp only at hi hts hlq hfq hcq hco ⊢
        repeat' (first | (show J _ _ _ (runS _ _ _ _ (⟨_, _, _, _, _, none⟩ :: _)); (show J _ _ _ (runS _ _ _ _ (⟨_, .binOp _ _ _ _ _, _, _, _, _⟩ :: _)); ((refine j_bin rfl rfl rfl rfl ?_)))) | refine j_nil ?_ | (show J _ _ _ (Code.wp _ _ _); first | refine j_seq ?_ | refine j_region ?_ | refine j_block ?_ | (show J _ _ _ (Code.wp _ (.cond _ _ _) _); (refine j_dec rfl (fun h => ?_) (fun h => ?_))) | refine j_skip ?_ | refine j_exit ?_) | refine j_then ?_ | refine j_then_exit ?_ | refine j_inb_here ?_)
        · have hi2 : i < m := by omega
          have hlq4 : lq ≤ 4096 := by omega
          have hvq : Sees ((blk b 64 [.int .i64 3, .int .i64 0, .string ⟨#[]⟩, .slice a7 ts.length c7] :: Sl 64 a7 c7 ts :: ItHL ts :: blk b4 64 [.int .i64 0, .int .i64 0, .string ⟨#[]⟩, .slice none 0 0] :: Lp)) (fun w => Vw w aq rq) := (hfq.sees hv).cons.cons.cons.cons
          refine j_planX (.take 0 (.take 2 (.take 3 (.take 4 (.fork 1 (.take 5 (.take 6 (.take 7 (.take 8 (.take 9 (.done)))))) (.fork 5 (.take 1 (.take 6 (.take 7 (.take 8 (.take 9 (.done)))))) (.stop))))))) (by decide +kernel) ?_
          repeat' (first | (show J _ _ _ (runS _ _ _ _ (⟨_, _, _, _, _, none⟩ :: _)); first | (show J _ _ _ (runS _ _ _ _ (⟨_, .move _, _, _, _, _⟩ :: _)); refine j_move rfl rfl ?_) | (show J _ _ _ (runS _ _ _ _ (⟨_, .load _ _, _, _, _, _⟩ :: _)); ((refine j_load rfl rfl (by repeat constructor) rfl rfl ?_))) | (show J _ _ _ (runS _ _ _ _ (⟨_, .fieldAddr _ _ _, _, _, _, _⟩ :: _)); refine j_fieldAddr rfl rfl ?_) | (show J _ _ _ (runS _ _ _ _ (⟨_, .binOp _ _ _ _ _, _, _, _, _⟩ :: _)); ((refine j_add rfl rfl (by omega) rfl ?_)))) | refine j_nil ?_ | (show J _ _ _ (runT _ _ _ _ _); first | refine j_take rfl ?_ | refine j_fork rfl ?_ ?_ | exact j_stop))
          all_goals
            rw [show (deep : Int) + 1 = ((deep + 1 : Nat) : Int) from by omega]
            (refine j_callX rfl rfl (ih (deep + 1) (by omega) lq hlq4 rb aq cq rq hcq (blk b 64 [.int .i64 3, .int .i64 0, .string ⟨#[]⟩, .slice a7 ts.length c7] :: Sl 64 a7 c7 ts :: ItHL ts :: blk b4 64 [.int .i64 0, .int .i64 0, .string ⟨#[]⟩, .slice none 0 0] :: Lp) hvq) ((by repeat (first | exact .refl | apply Pk.cons | constructor))) rfl (fun v M N h hN => ?_) (fun v M N h hN => ?_); (obtain ⟨t, l', r', h8, rfl, hl8, a8, c8, hf8, hc8, rfl⟩ := h; (try simp only [List.nil_append, List.cons_append, List.append_assoc] at hN); subst hN); rotate_left; (obtain ⟨h8, rfl, a', c', len', left', rfl⟩ := h; (try simp only [List.nil_append, List.cons_append, List.append_assoc] at hN); subst hN); rotate_right)
            · repeat' (first | (show J _ _ _ (runS _ _ _ _ (⟨_, _, _, _, _, none⟩ :: _)); (show J _ _ _ (runS _ _ _ _ (⟨_, .load _ _, _, _, _, _⟩ :: _)); ((refine j_load rfl rfl (by repeat constructor) rfl rfl ?_)))) | refine j_nil ?_ | (show J _ _ _ (runT _ _ _ _ _); (refine j_take rfl ?_)))
              refine j_lit1 (α := IA) rfl rfl t rfl (by cases t <;> decide) rfl (fun bh => ?_)
              repeat' (first | refine j_nil ?_ | (show J _ _ _ (runT _ _ _ _ _); (refine j_take rfl ?_)))
              refine j_append (α := IA) (ls := ts) (ms := [t]) rfl rfl rfl (fun _ _ => (by repeat constructor)) (M := [blk bh 64 (cellsI t)]) (by repeat ((exact .refl))) (sees_blk1 t) rfl rfl (by unfold maxLen; simp; omega) (by simp; omega) rfl (fun a9 c9 _ => ?_)
              refine j_tk (A := ItHL ts) (by repeat constructor) (j_tk (A := ItH t) (by repeat constructor) (j_itSnoc ?_))
              repeat' (first | (show J _ _ _ (runS _ _ _ _ (⟨_, _, _, _, _, none⟩ :: _)); first | (show J _ _ _ (runS _ _ _ _ (⟨_, .move _, _, _, _, _⟩ :: _)); refine j_move rfl rfl ?_) | (show J _ _ _ (runS _ _ _ _ (⟨_, .fieldAddr _ _ _, _, _, _, _⟩ :: _)); refine j_fieldAddr rfl rfl ?_) | (show J _ _ _ (runS _ _ _ _ (⟨_, .binOp _ _ _ _ _, _, _, _, _⟩ :: _)); ((refine j_add rfl rfl (by omega) rfl ?_))) | (show J _ _ _ (runS _ _ _ _ (⟨_, .store _ _ _, _, _, _, _⟩ :: _)); ((refine j_set rfl rfl rfl (by rfl) (by repeat constructor) (by repeat constructor) ?_)))) | refine j_nil ?_ | (show J _ _ _ (Code.wp _ _ _); (refine j_region ?_)) | (show J _ _ _ (runT _ _ _ _ _); first | refine j_take rfl ?_ | refine j_done ?_) | refine j_then ?_ | refine j_inb ?_)
              refine j_round ⟨(i + 1, l', r', ts ++ [t], a9, c9, a8, c8), ⟨hi2, by dsimp only; rw [List.length_append, hts]; rfl⟩, by dsimp only; omega, hfq.trans hf8, hc8, ?_⟩ (by dsimp only; omega) ⟨rfl, rfl, rfl, rfl, rfl, rfl, trivial⟩ (by repeat (first | exact .refl | apply Pk.cons | refine .drop ?_ | constructor))
              rw [hco, show m - i = (m - (i + 1)) + 1 from by omega]
              exact contP_step h8
            · repeat' (first | refine j_then_panic ?_ | refine j_inb_panic ?_)
              refine j_rdx (fn := _) (by repeat (first | exact .refl | apply Pk.cons | refine .drop ?_ | constructor)) ?_
              rw [itemP, if_neg (by decide), if_neg (by decide), if_pos rfl, h2]
              show (match itemsP (itemP d) m left r2 with | some (vs, l, r') => _ | none => _) = _
              rw [hco, show m - i = (m - (i + 1)) + 1 from by omega, contP_none h8]
        · have he : i = m := by omega
          subst he
          rw [Nat.sub_self] at hco
          refine j_loads [.int .i64 3, .int .i64 0, .string ⟨#[]⟩, .slice a7 ts.length c7] rfl rfl rfl (by repeat constructor) ⟨rfl, rfl, rfl, rfl, trivial⟩ rfl ?_
          repeat' (first | (show J _ _ _ (runS _ _ _ _ (⟨_, _, _, _, _, none⟩ :: _)); (show J _ _ _ (runS _ _ _ _ (⟨_, .store _ _ _, _, _, _, _⟩ :: _)); ((refine j_sets rfl rfl rfl (by rfl) (by repeat constructor) (by repeat constructor) (by rfl) ?_)))) | refine j_nil ?_ | (show J _ _ _ (Code.wp _ _ _); (refine j_ret ?_)) | refine j_then ?_ | refine j_then_ret ?_ | refine j_inb_ret ?_ | refine j_retX ?_)
          refine j_tk (A := ItHL ts) (by repeat constructor) (j_tk (A := Sl 64 a7 c7 ts) (by repeat constructor) (j_itLst ?_))
          refine j_retc [.int .i64 3, .int .i64 0, .string ⟨#[]⟩, .slice a7 ts.length c7] rfl rfl rfl (by repeat constructor) rfl ⟨rfl, rfl, rfl, rfl, trivial⟩ (M := rdB rb aq cq rq (lq : Nat) :: ItH (.lst a7 c7 ts) :: Lp) (by repeat (first | exact .refl | apply Pk.cons | refine .drop ?_ | constructor)) ⟨.lst a7 c7 ts, lq, rq, ?_, rfl, by omega, aq, cq, hfq, hcq, rfl⟩
          rw [itemP, if_neg (by decide), if_neg (by decide), if_pos rfl, h2]
          show (match itemsP (itemP d) i left r2 with | some (vs, l, r') => _ | none => _) = _
          rw [hco, itemsP, contP, List.append_nil, plI]
      · repeat' (first | refine j_then_panic ?_ | refine j_inb_panic ?_)
        refine j_rdx (fn := _) (by repeat (first | exact .refl | apply Pk.cons | refine .drop ?_ | constructor)) ?_
        rw [itemP, if_neg (by decide), if_neg (by decide), if_pos rfl, h2]
    · refine j_rdx (fn := _) (by repeat (first | exact .refl | apply Pk.cons | refine .drop ?_ | constructor)) ?_
      have e1 : ¬ k = 1 := fun e => by subst e; simp at *
      have e2 : ¬ k = 2 := fun e => by subst e; simp at *
      have e3 : ¬ k = 3 := fun e => by subst e; simp at *
      rw [itemP, if_neg e1, if_neg e2, if_neg e3]
end Go.Proofs.Ytnmfpgfgjjmfhaa
